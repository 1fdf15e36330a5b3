/- Part of the proof. -/
import Derived.Test.YtjfkdglgecgjfaaGreatZEO
import Derived.Lib.ConvBytes
namespace Go.Proofs.YtjfkdglgecgjfaaGreat.R
open Go.RowKit
section
variable {P:Program}{w0 w:World}{ρ:lP}{h:HS}{K:Tr AV}{a:Act}{o:Oper}{r:AR}
theorem kV{x:AV}{n:Nat}{v:Value}(e:wb x=some n)(hv:conv ρ x=some v):∃k,v=.int k (n:Int):=by
 cases x with
 |p u=>
  cases u with
  |int k i=>
   have:=dR hv
   simp only[wb]at e
   split at e
   . rename_i hd
     have:=aZ hd
     simp only[af]at e
     exact⟨k,by rw[<- e,Int.toNat_of_nonneg this];assumption⟩
   . cases e
  |_=>cases e
 |_=>cases e
theorem iG(l:Loc)(f n:Nat):(addr l f).add n=addr l (f+n):=by
 unfold Addr.add addr;split
 . rename_i e;subst e;rfl
 . simp only[Nat.add_assoc]
theorem tD{x:Operand}(ho:o.op=.nilCheck x)(H:WR w0 ρ h w)(hE:sI ρ K a o.op)(e:cC P h K o=some r):dB w0 ρ h w ((execOp a.eval o).run P w) r:=by
 simp only[cC,ho,aa]at e;obtain⟨v,e1,e⟩:=e;have hv:=hE x v (by simp[ho,Op.operands]) e1;split at e
 . cases e;obtain⟨l,_,hx⟩:=jx hv;exact⟨a.eval x,w,by simp[execOp,ho,hx,Sem.run_pure],hv,H⟩
 . cases e;have hv':=hv;simp only[conv,aa,ab]at hv;obtain⟨aS,_,cs,_,hx⟩:=hv;exact⟨a.eval x,w,by simp[execOp,ho,<- hx,Sem.run_pure],hv',H⟩
 . cases e;have hv':=hv;simp only[conv,ab]at hv;obtain⟨l,_,hx⟩:=hv;exact⟨a.eval x,w,by simp[execOp,ho,<- hx,Sem.run_pure],hv',H⟩
 . cases e
theorem CO:∀{xs:List Operand} {vs:List AV},P4 K xs=some vs->(∀x∈xs,∀v,eB K x=some v->conv ρ v=some (a.eval x))->bX ρ vs=some (xs.map a.eval)
 |[],vs,e,_=>by simp only[P4,af]at e;subst e;rfl
 |x::xs,vs,e,hE=>by
  simp only[P4,aa,ab]at e;obtain⟨v,e1,vs',e2,rfl⟩:=e;exact n5 (hE x (aq ..) v e1) (CO e2 fun y hy=>hE y (au _ hy))
theorem tB{f:Fn}{xs ys:Array Operand}(ho:o.op=.makeFunc f xs ys)(H:WR w0 ρ h w)(hE:sI ρ K a o.op)(e:cC P h K o=some r):dB w0 ρ h w ((execOp a.eval o).run P w) r:=by
 simp only[cC,ho,aa,ab]at e;obtain⟨aS,e1,cs,e2,rfl⟩:=e;have k1:=CO (a:=a) e1 fun x hx v=>hE x v (by simp only[ho,Op.operands,Array.mem_append];exact .inl (by simpa using hx))
 have k2:=CO (a:=a) e2 fun x hx v=>hE x v (by simp only[ho,Op.operands,Array.mem_append];exact .inr (by simpa using hx))
 exact⟨.func f (xs.map a.eval) (ys.map a.eval),w,by simp[execOp,ho,Instr.makeFunc],by simp only[conv,k1,k2,ae,ak,<- aX,Array.toArray_toList],H⟩
theorem ma{t:TypeId}{q:TypeId×TypeId}(e:jB P t=some q):P.underlying t=some (.map q.1 q.2):=by
 unfold jB at e;split at e
 . rename_i hu;simp only[af]at e;subst e;exact hu
 . cases e
theorem wh{t:TypeId}{x:Option Operand}(ho:o.op=.makeMap t x)(hE:sI ρ K a o.op)(e:cC P h K o=some r):dB w0 ρ h w ((execOp a.eval o).run P w) r:=by
 have fin:(execOp a.eval o).run P w=.ok (.value (.map (some w.heap.size))) (w.alloc (.map #[] 0))->dB w0 ρ h w ((execOp a.eval o).run P w) (.new (.map [] 0) .mp):=fun hr=>by
  intro h₂ q H2 hx hn;exact⟨_,_,⟨w.heap.size,0,0⟩,hr,by simp only[conv,kI,ak],H2.alloc hx hn (.inl rfl) ⟨[],rfl,by rw[nA,if_pos rfl]⟩⟩
 simp only[cC,ho]at e
 cases x with
 |none=>
  cases e
  exact fin (by simp[execOp,ho,Instr.makeMap])
 |some x=>
  simp only[aa,ab]at e
  obtain⟨ty,e1,n,⟨v,e2,e3⟩,rfl⟩:=e
  obtain⟨k,hx⟩:=kV e3 (hE x v (by simp[ho,Op.operands]) e2)
  exact fin (by simp[execOp,ho,Instr.makeMap,run_underlying (ma e1),hx,asInt,asIntOf])
theorem zM{t:TypeId}{x:Operand}(ho:o.op=.makeInterface t x)(H:WR w0 ρ h w)(hE:sI ρ K a o.op)(e:cC P h K o=some r):dB w0 ρ h w ((execOp a.eval o).run P w) r:=by
 simp only[cC,ho,aa]at e;obtain⟨v,e1,e⟩:=e;have hv:=hE x v (by simp[ho,Op.operands]) e1;split at e
 . cases e
 . rename_i d hne hu;cases e;refine⟨.iface t (a.eval x),w,?_,by simp only[conv,hv,ak],H⟩;have:(Instr.makeInterface t (a.eval x)).run P w=.ok (.iface t (a.eval x)) w:=by
    unfold Instr.makeInterface;simp only[Sem.run_bind,run_underlying hu,Result.andThen_ok,Sem.run_pure]
   simp only[execOp,ho,Sem.run_bind,this,Result.andThen_ok,Sem.run_pure]
 . cases e
theorem Ox{t:TypeId}{l:List AV}{f:Nat}{v:AV}{vs:List Value}(e:ya P t l f=some v)(hl:bX ρ l=some vs):∃v',conv ρ v=some v'/\(part t vs.toArray f).run P w=.ok v' w:=by
 simp only[ya,aa]at e;obtain⟨⟨ag,s⟩,e1,e2⟩:=e;obtain⟨d,i,h1,h2,h3,h4⟩:=js e1
 cases ag with
 |true=>
  simp only[ab]at e2
  obtain⟨l',e3,rfl⟩:=e2
  obtain⟨rfl,e4⟩:=uy e3
  have hc:=lV s (lS f hl)
  refine⟨_,by simp only[conv,hc,ak];rfl,?_⟩
  simp only[part,Sem.run_bind,kW h1,h3,Result.andThen_ok,if_true,sizeOf,typeInfo,run_program,h2,Sem.run_pure,h4]
  congr 2
  apply Array.ext'
  simp[List.take_drop]
 |false=>
  obtain⟨u,hu,hc⟩:=lU hl e2
  refine⟨u,hc,?_⟩
  simp[part,kW h1,h3,hu]
theorem DA{t:TypeId}{x:Operand}{i:Nat}(ho:o.op=.field t x i)(H:WR w0 ρ h w)(hE:sI ρ K a o.op)(e:cC P h K o=some r):dB w0 ρ h w ((execOp a.eval o).run P w) r:=by
 simp only[cC,ho,aa]at e;obtain⟨v,e1,e⟩:=e;have hv:=hE x v (by simp[ho,Op.operands]) e1;unfold GV at e;split at e
 . rename_i l fs hu;simp only[aa,ab]at e;obtain⟨fl,e2,u,e3,rfl⟩:=e;obtain⟨vs,k1,k2⟩:=CI hv;obtain⟨u',k3,k4⟩:=Ox (P:=P) (w:=w) e3 k1;exact⟨u',w,by simp[execOp,ho,Instr.field,run_underlying hu,e2,k2,asAgg,k4],k3,H⟩
 . cases e
theorem DB{t:TypeId}{x y:Operand}(ho:o.op=.index t x y)(H:WR w0 ρ h w)(hE:sI ρ K a o.op)(e:cC P h K o=some r):dB w0 ρ h w ((execOp a.eval o).run P w) r:=by
 simp only[cC,ho,aa]at e;obtain⟨v,e1,u,e2,e⟩:=e;have hv:=hE x v (by simp[ho,Op.operands]) e1;have hu':=hE y u (by simp[ho,Op.operands]) e2;simp only[G2,aa]at e;obtain⟨i,e3,e⟩:=e;obtain⟨k,hy⟩:=kV e3 hu';split at e
 . rename_i l n el hu;simp only[aa]at e;obtain⟨inf,e4,e⟩:=e;split at e
   . rename_i hb;have hlt:=aj hb;simp only[ab]at e;obtain⟨u,e5,rfl⟩:=e;obtain⟨vs,k1,k2⟩:=CI hv;obtain⟨u',k3,k4⟩:=Ox (P:=P) (w:=w) e5 k1;refine⟨u',w,?_,k3,H⟩;have hi:i<n:=by omega
     simp[execOp,ho,Instr.index,hy,asIntOf,run_underlying hu,k2,sizeOf,typeInfo,e4,k4,hi]
   . cases e
 . cases e
theorem wg{x:Operand}{i:Nat}(ho:o.op=.extract x i)(H:WR w0 ρ h w)(hE:sI ρ K a o.op)(e:cC P h K o=some r):dB w0 ρ h w ((execOp a.eval o).run P w) r:=by
 simp only[cC,ho,aa]at e;obtain⟨v,e1,e⟩:=e;have hv:=hE x v (by simp[ho,Op.operands]) e1;split at e
 . simp only[ab]at e;obtain⟨u,e2,rfl⟩:=e;obtain⟨vs,k1,k2⟩:=I1 hv;obtain⟨u',k3,k4⟩:=lU k1 e2;exact⟨u',w,by simp[execOp,ho,Instr.extract,k2,k3],k4,H⟩
 . cases e
theorem EU{x:Operand}{t u:TypeId}{ok:Bool}(ho:o.op=.typeAssert x u t ok)(H:WR w0 ρ h w)(hE:sI ρ K a o.op)(e:cC P h K o=some r):dB w0 ρ h w ((execOp a.eval o).run P w) r:=by
 simp only[cC,ho,aa]at e;obtain⟨v,e1,e⟩:=e;have hv:=hE x v (by simp[ho,Op.operands]) e1;unfold Gk at e;split at e
 . cases e
 . rename_i q y d hne hu;split at e
   . rename_i hb;have hq:q=t:=ah hb;subst hq;simp only[conv,ab]at hv;obtain⟨y',k1,k2⟩:=hv;have hrun:(Instr.typeAssert (a.eval x) u q ok).run P w=.ok (if ok then .tuple #[y',.bool true]else y') w:=by
      rw[<- k2];cases d<;>first|exact(hne _ rfl).elim|(simp[Instr.typeAssert,run_underlying hu];try(cases ok<;>rfl))
     cases e;refine⟨if ok then .tuple #[y',.bool true]else y',w,by simp only[execOp,ho,Sem.run_bind,hrun,Result.andThen_ok,Sem.run_pure],?_,H⟩
     cases ok with
     |true=>simp only[if_true];exact by simp only[conv,bX,k1,ae,ak]
     |false=>exact k1
   . cases e
 . cases e
theorem rQ{t:TypeId}{x:Operand}{i:Nat}(ho:o.op=.fieldAddr t x i)(H:WR w0 ρ h w)(hE:sI ρ K a o.op)(e:cC P h K o=some r):dB w0 ρ h w ((execOp a.eval o).run P w) r:=by
 simp only[cC,ho,aa]at e;obtain⟨v,e1,e⟩:=e;have hv:=hE x v (by simp[ho,Op.operands]) e1;unfold rq at e;split at e
 . rename_i q f fs hu;simp only[aa]at e;obtain⟨fl,e2,inf,e3,e⟩:=e;split at e
   . rename_i hb;cases e;obtain⟨l,hl,hx⟩:=jx hv;have hne:¬ inf.size=0:=fun h0=>by rw[h0]at hb;cases hb
     exact⟨.pointer (some (addr l (f+fl.offset))),w,by simp[execOp,ho,Instr.fieldAt,run_underlying hu,e2,hx,Instr.sureAddr,fieldPlace,sizeOf,typeInfo,e3,hne,iG],by simp only[conv,hl,ak],H⟩
   . cases e
 . cases e
theorem rR{t:TypeId}{x y:Operand}(ho:o.op=.indexAddr t x y)(H:WR w0 ρ h w)(hE:sI ρ K a o.op)(e:cC P h K o=some r):dB w0 ρ h w ((execOp a.eval o).run P w) r:=by
 simp only[cC,ho,aa]at e;obtain⟨v,e1,u,e2,e⟩:=e;have hv:=hE x v (by simp[ho,Op.operands]) e1;have hu':=hE y u (by simp[ho,Op.operands]) e2;simp only[rF,aa]at e;obtain⟨i,e3,e⟩:=e;obtain⟨k,hy⟩:=kV e3 hu';split at e
 . rename_i q f n el hu;simp only[aa]at e;obtain⟨inf,e4,e⟩:=e;split at e
   . rename_i hb;cases e;have hlt:=aj hb;obtain⟨l,hl,hx⟩:=jx hv;refine⟨.pointer (some (addr l (f+i*inf.size))),w,?_,by simp only[conv,hl,ak],H⟩;simp[execOp,ho,Instr.indexAt,hy,asIntOf,run_underlying hu,hx,Instr.sureAddr,sizeOf,typeInfo,e4,iG];omega
   . cases e
 . rename_i q f n c z el hu;simp only[aa]at e;obtain⟨inf,e4,e⟩:=e;split at e
   . rename_i hb;cases e;have hlt:=aj hb;obtain⟨l,hl,hx⟩:=ij hv;refine⟨.pointer (some (addr l (f+i*inf.size))),w,?_,by simp only[conv,hl,ak],H⟩;simp[execOp,ho,Instr.indexAt,hy,asIntOf,run_underlying hu,hx,sizeOf,typeInfo,e4,iG];omega
   . cases e
 . cases e
end
end Go.Proofs.YtjfkdglgecgjfaaGreat.R
namespace Go.Proofs.YtjfkdglgecgjfaaGreat.R
open Go.RowKit
section
variable {P:Program}{w0 w:World}{ρ:lP}{h:HS}{K:Tr AV}{a:Act}{o:Oper}{r:AR}
theorem hG{d n:Nat}{x:Option Operand}(e:EV K d x=some n)(hE:∀y∈x.toList,∀v,eB K y=some v->conv ρ v=some (a.eval y)):(x=none/\n=d)\/∃y k,x=some y/\a.eval y=.int k (n:Int):=by
 cases x with
 |none=>simp only[EV,af]at e;exact .inl ⟨rfl,e.symm⟩
 |some y=>
  simp only[EV,aa]at e
  obtain⟨v,e1,e2⟩:=e
  obtain⟨k,hk⟩:=kV e2 (hE y (by simp) v e1)
  exact .inr ⟨y,k,rfl,hk⟩
theorem BH{s:Bool}{len cap l hh m:Nat}{lo hi mx:Option Operand}(hb:aar hi mx=true)(hl:(lo=none/\l=0)\/∃y k,lo=some y/\a.eval y=.int k (l:Int))(hh':(hi=none/\hh=len)\/∃y k,hi=some y/\a.eval y=.int k (hh:Int))
 (hm:(mx=none/\m=cap)\/∃y k,mx=some y/\a.eval y=.int k (m:Int)) (c1:l<=hh) (c2:hh<=m) (c3:m<=cap):(Instr.sliceBounds s len cap (lo.map a.eval) (hi.map a.eval) (mx.map a.eval)).run P w=.ok (l,hh,m) w:=by
 have q1:∀{y:Operand} {k:IntKind} {u:Nat} {code:BoundsCode},a.eval y=.int k (u:Int)->∀{n:Nat},u<=n->(Instr.sliceBound (a.eval y) n code).run P w=.ok u w:=fun hy _ hn=>by rw[hy];exact dQ hn
 rcases hl with h1|h1
 . obtain⟨rfl,rfl⟩:=h1
   rcases hh' with h2|h2
   . obtain⟨rfl,rfl⟩:=h2
     rcases hm with h3|h3
     . obtain⟨rfl,rfl⟩:=h3
       rfl
     . obtain⟨_,_,rfl,_⟩:=h3;cases hb
   . obtain⟨y2,k2,rfl,hy2⟩:=h2
     rcases hm with h3|h3
     . obtain⟨rfl,rfl⟩:=h3
       simp only[Instr.sliceBounds,Option.map_none,ak,Sem.run_bind,Sem.run_pure,Result.andThen_ok,q1 hy2 c2]
     . obtain⟨y3,k3,rfl,hy3⟩:=h3
       simp only[Instr.sliceBounds,Option.map_none,ak,Sem.run_bind,Sem.run_pure,Result.andThen_ok,q1 hy3 c3,q1 hy2 c2]
 . obtain⟨y,k,rfl,hy⟩:=h1
   rcases hh' with h2|h2
   . obtain⟨rfl,rfl⟩:=h2
     rcases hm with h3|h3
     . obtain⟨rfl,rfl⟩:=h3
       simp only[Instr.sliceBounds,Option.map_none,ak,Sem.run_bind,Sem.run_pure,Result.andThen_ok,q1 hy c1]
     . obtain⟨_,_,rfl,_⟩:=h3;cases hb
   . obtain⟨y2,k2,rfl,hy2⟩:=h2
     rcases hm with h3|h3
     . obtain⟨rfl,rfl⟩:=h3
       simp only[Instr.sliceBounds,Option.map_none,ak,Sem.run_bind,Sem.run_pure,Result.andThen_ok,q1 hy2 c2,q1 hy c1]
     . obtain⟨y3,k3,rfl,hy3⟩:=h3
       simp only[Instr.sliceBounds,ak,Sem.run_bind,Sem.run_pure,Result.andThen_ok,q1 hy3 c3,q1 hy2 c2,q1 hy c1]
theorem zh{q f lo hi m z:Nat}(e:R7 q f lo hi m z=some r):lo<=hi/\hi<=m/\((m=lo/\r=.val (.sl q f (hi-lo) (some (m-lo)) z))\/(¬ m=lo/\r=.val (.sl q (f+lo*z) (hi-lo) (some (m-lo)) z))):=by
 unfold R7 at e;split at e
 . rename_i hb;simp only[al]at hb;refine⟨aj hb.1,aj hb.2,?_⟩;simp only[af]at e
   cases hm:Nat.beq m lo with
   |true=>rw[hm]at e;exact .inl ⟨ah hm,e.symm⟩
   |false=>rw[hm]at e;exact .inr ⟨fun h0=>(by rw[h0,Nat.beq_refl]at hm;cases hm),e.symm⟩
 . cases e
theorem Uh{x z l:Nat}(hz:1<=z):(x-l*z)/z=x/z-l:=by
 rw[Nat.mul_comm,Nat.sub_mul_div]
theorem ok_slice{t:TypeId}{x:Operand}{lo hi mx:Option Operand}(ho:o.op=.slice t x lo hi mx)(H:WR w0 ρ h w)(hE:sI ρ K a o.op)(e:cC P h K o=some r):dB w0 ρ h w ((execOp a.eval o).run P w) r:=by
 simp only[cC,ho,aa]at e;obtain⟨v,e1,e⟩:=e;have hv:=hE x v (by simp[ho,Op.operands]) e1;have hlo:∀y∈lo.toList,∀v,eB K y=some v->conv ρ v=some (a.eval y):=fun y hy v=>hE y v (by rw[ho];simp only[Op.operands,Array.mem_append,<- Option.toArray_toList,List.mem_toArray];exact .inl (.inl (.inr hy)))
 have hhi:∀y∈hi.toList,∀v,eB K y=some v->conv ρ v=some (a.eval y):=fun y hy v=>hE y v (by rw[ho];simp only[Op.operands,Array.mem_append,<- Option.toArray_toList,List.mem_toArray];exact .inl (.inr hy))
 have hmx:∀y∈mx.toList,∀v,eB K y=some v->conv ρ v=some (a.eval y):=fun y hy v=>hE y v (by rw[ho];simp only[Op.operands,Array.mem_append,<- Option.toArray_toList,List.mem_toArray];exact .inr hy)
 unfold MG at e;split at e
 . cases e
 rename_i hb;split at e
 . rename_i q f n el hu;simp only[aa]at e;obtain⟨inf,e2,l,e3,hh,e4,m,e5,e⟩:=e;split at e
   . rename_i hm;obtain⟨c1,c2,hr⟩:=zh e;obtain⟨L,hL,hx⟩:=jx hv;have hbd:=BH (P:=P) (w:=w) (s:=false) hb (hG e3 hlo) (hG e4 hhi) (hG e5 hmx) c1 c2 (aj hm);have hrun:(execOp a.eval o).run P w=.ok (.value (.slice (some (if m=l then addr L f else(addr L f).add (l*inf.size))) (hh-l) (m-l))) w:=by
      simp only[execOp,ho,Instr.sliceAt,Sem.run_bind,run_underlying hu,Result.andThen_ok,hx,Instr.sureAddr,Sem.run_pure,hbd,sizeOf,typeInfo,run_program,e2]
     rcases hr with⟨c3,rfl⟩|⟨c3,rfl⟩
     . rw[if_pos c3]at hrun;exact⟨_,w,hrun,by simp only[conv,hL,ak,dZ],H⟩
     . rw[if_neg c3,iG]at hrun;exact⟨_,w,hrun,by simp only[conv,hL,ak,dZ],H⟩
   . cases e
 . rename_i q f n c z el hu;simp only[aa]at e;obtain⟨inf,e2,e⟩:=e;obtain⟨L,hL,hx⟩:=ij hv;split at e
   . cases e
   rename_i hz;simp only[al]at hz;have hz1:inf.size=z:=ah hz.1;have hz2:=aj hz.2;simp only[aa]at e;obtain⟨l,e3,hh,e4,e⟩:=e;have run:∀{m},(Instr.sliceBounds true n (dZ L f z c) (lo.map a.eval) (hi.map a.eval) (mx.map a.eval)).run P w=.ok (l,hh,m) w->
    (execOp a.eval o).run P w=.ok (.value (.slice (some (if m=l then addr L f else(addr L f).add (l*z))) (hh-l) (m-l))) w:=fun{m} hbd=>by
    have:(Instr.slice t (a.eval x) (lo.map a.eval) (hi.map a.eval) (mx.map a.eval)).run P w=.ok (.slice (some (if m=l then addr L f else(addr L f).add (l*z))) (hh-l) (m-l)) w:=by
     rw[hx];simp only[Instr.slice,Sem.run_bind,run_underlying hu,Result.andThen_ok,hbd,sizeOf,typeInfo,run_program,e2,Sem.run_pure,hz1,ak];split<;>rfl
    simp only[execOp,ho,Instr.sliceAt,Sem.run_bind,run_underlying hu,Result.andThen_ok,this,Sem.run_pure]
   split at e
   . rename_i cc;simp only[aa]at e;obtain⟨m,e5,e⟩:=e;split at e
     . rename_i hm;obtain⟨c1,c2,hr⟩:=zh e;have hrun:=run (BH (P:=P) (w:=w) (s:=true) hb (hG e3 hlo) (hG e4 hhi) (hG e5 hmx) c1 c2 (aj hm));rcases hr with⟨c3,rfl⟩|⟨c3,rfl⟩
       . rw[if_pos c3]at hrun;exact⟨_,w,hrun,by simp only[conv,hL,ak,dZ],H⟩
       . rw[if_neg c3,iG]at hrun;exact⟨_,w,hrun,by simp only[conv,hL,ak,dZ],H⟩
     . cases e
   . simp only[aa]at e;obtain⟨cs,e5,e⟩:=e;have hg:=gg e5;have hob:=H.obj _ _ _ hg hL;obtain⟨cur,fz,vs,o1,o2,o3,o4,o5,o6⟩:=hob;split at e
     . rename_i mo;simp only[aa]at e;obtain⟨m,e6,e⟩:=e;split at e
       . rename_i hm;have hm:=aj hm;obtain⟨c1,c2,hr⟩:=zh e;have hcap:m<=dZ L f z none:=by
          simp only[dZ];rw[Nat.le_div_iff_mul_le (by omega)];omega
         have hmo:(some mo=none/\m=dZ L f z none)\/∃y k,some mo=some y/\a.eval y=.int k (m:Int):=by
          rcases hG (K:=K) (d:=0) e6 hmx with⟨h0,_⟩|h1
          . cases h0
          . exact .inr h1
         have hrun:=run (BH (P:=P) (w:=w) (s:=true) hb (hG e3 hlo) (hG e4 hhi) hmo c1 c2 hcap);rcases hr with⟨c3,rfl⟩|⟨c3,rfl⟩
         . rw[if_pos c3]at hrun;exact⟨_,w,hrun,by simp only[conv,hL,ak,dZ],H⟩
         . rw[if_neg c3,iG]at hrun;exact⟨_,w,hrun,by simp only[conv,hL,ak,dZ],H⟩
       . cases e
     . split at e
       . cases e
       rename_i hc;simp only[al]at hc;have c1:=aj hc.1;have c2:=aj hc.2;have hcap:hh<=dZ L f z none:=by
        simp only[dZ];rw[Nat.le_div_iff_mul_le (by omega)];omega
       have hrun:=run (BH (P:=P) (w:=w) (s:=true) (mx:=none) (m:=dZ L f z none) hb (hG e3 hlo) (hG e4 hhi) (.inl ⟨rfl,rfl⟩) c1 hcap (Nat.le_refl _));split at e
       . rename_i hk;cases e;have hne:dZ L f z none=l->l=0:=fun h0=>by
          cases hk0:Nat.beq l 0 with
          |true=>exact ah hk0
          |false=>
           rw[hk0,Bool.false_or]at hk
           have:=aj hk
           have h1:l+1<=dZ L f z none:=by
            simp only[dZ];rw[Nat.le_div_iff_mul_le (by omega)];omega
           omega
         have had:(if dZ L f z none=l then addr L f else(addr L f).add (l*z))=addr L (f+l*z):=by
          split
          . rename_i h0;rw[hne h0];simp
          . rw[iG]
         rw[had]at hrun;refine⟨_,w,hrun,?_,H⟩;simp only[conv,hL,ak,dZ];rw[Nat.sub_add_eq,Uh hz2]
       . split at e
         . rename_i hk;have hl:hh=l:=ah hk;subst hl;cases e;have key:∀off n',off+n'<=cur.size->n'/z=dZ L f z none-hh->(execOp a.eval o).run P w=.ok (.value (.slice (some ⟨L.b,off,none⟩) (hh-hh) (dZ L f z none-hh))) w->dB w0 ρ h w ((execOp a.eval o).run P w) (.la (.sl h.nx 0 0 none z) ((h.kill q).add (.cells [] cs.2))):=fun off n' k1 k2 k3=>by
            refine⟨put ρ h.nx ⟨L.b,off,n'⟩,_,w,jl.put (H.fresh _ (Nat.le_refl _)).1,.inl k3,?_,?_⟩
            . simp only[conv,kI,ak,dZ,addr,Nat.add_zero,Nat.sub_zero,Nat.sub_self];simp only[dZ]at k2;rw[k2]
            . have hlt:=H.lt hL;refine H.la (o:=h.nx) (x:=.cells [] cs.2) (q:=⟨L.b,off,n'⟩) (pN.refl w) (fun o' ne=>?_) (pj _ _ _) (fun o' ne=>rY ne) kI (lI (H.fresh _ (Nat.le_refl _)).1) (fun o' y q' ne hy hq' eb=>?_) (fun _ _ _=>rfl) (H.base q L hL) (by simp only[HS.add,HS.kill];omega) (by simp only[HS.add,HS.kill];omega) ⟨cur,fz,[],o1,o2,k1,by simp,rfl,fun j v hj=>by simp at hj⟩
              . simp only[HS.add,HS.kill];rw[dK _ _ ne,iu];split
                . exact .inr rfl
                . exact .inl rfl
              . simp only[HS.add,HS.kill]at hy;rw[dK _ _ ne,iu]at hy;split at hy
                . cases hy
                . rename_i nq;exact nq (H.inj o' q y _ q' L hy hg hq' hL eb)
           by_cases h0:dZ L f z none=hh
           . rw[if_pos h0]at hrun;exact key (L.i+f) 0 (by omega) (by rw[h0];simp) hrun
           . rw[if_neg h0,iG]at hrun;have h1:hh*z<=L.n-f:=by
              have:hh<=(L.n-f)/z:=hcap;rw[Nat.le_div_iff_mul_le (by omega)]at this;exact this
             refine key (L.i+(f+hh*z)) (L.n-f-hh*z) (by omega) ?_ hrun;rw[Uh hz2];rfl
         . cases e
 . cases e
theorem q9{l:List AV}{T:TypeId}{q:Loc}{f s:Nat}{xs:List AV}(ho:iY ρ w (.cells l T) q)(e:dG l f s=some xs):∃us,bX ρ xs=some us/\us.length=s/\∀(j:Nat) (u:Value),us[j]?=some u->w.cell? ((addr q f).add j)=some u:=by
 obtain⟨cur,fz,vs,o1,o2,o3,o4,o5,o6⟩:=ho;obtain⟨rfl,e2⟩:=uy e;have hc:=lV s (lS f o5);refine⟨_,hc,by rw[eA hc];exact e2,fun j u hu=>?_⟩;rw[iG];unfold addr;rw[BI o1];rw[List.getElem?_take]at hu;split at hu
 . rw[List.getElem?_drop]at hu;exact o6 _ _ hu
 . cases hu
theorem J8(H:WR w0 ρ h w){z n:Nat}{x:AV}{x':Value}{xs:List AV}(hx:conv ρ x=some x')(e:tL h z n x=some xs):
 ∃us,bX ρ xs=some us/\(Builtin.firstCells z n x').run P w=.ok us.toArray w/\(Builtin.firstCells z n x').run P w.drew=.ok us.toArray w.drew:=by
 unfold tL at e
 split at e
 . rename_i q f k c z'
   simp only[aa]at e
   obtain⟨cs,e1,e2⟩:=e
   obtain⟨L,hL,rfl⟩:=ij hx
   obtain⟨us,k1,k2,k3⟩:=q9 (H.obj _ _ _ (gg e1) hL) e2
   exact⟨us,k1,run_firstCells_some w z n (addr L f) _ _ us k2 k3,run_firstCells_some w.drew z n (addr L f) _ _ us k2 (by simpa using k3)⟩
 . cases e
   rw[dR hx]
   exact⟨[],rfl,run_firstCells_none w z n 0 0,run_firstCells_none w.drew z n 0 0⟩
 . cases e
   rw[dR hx]
   rename_i s
   refine⟨(s.extract 0 n).data.toList.map fun b=>.int .u8 b.toNat,?_,?_,?_⟩
   . have:=nr (ρ:=ρ) ((s.extract 0 n).data.toList.map fun b=>Value.int .u8 b.toNat)
     rwa[List.map_map]at this
   . simp only[Builtin.firstCells,Sem.run_pure]
     congr 1
     apply Array.ext';simp
   . simp only[Builtin.firstCells,Sem.run_pure]
     congr 1
     apply Array.ext';simp
 . cases e
theorem Og{x:AV}{x':Value}{n:Nat}(hx:conv ρ x=some x')(e:JD x=some n)(w:World):(Builtin.lenOf x').run P w=.ok n w:=by
 unfold JD at e;split at e
 . cases e;obtain⟨L,_,rfl⟩:=ij hx;rfl
 . cases e;rw[dR hx];rfl
 . cases e;rw[dR hx];rfl
 . cases e
theorem rl{t:TypeId}{ei:TypeId×TypeInfo}(e:Fg P t=some ei):P.underlying t=some (.slice ei.1)/\P.info? ei.1=some ei.2:=by
 unfold Fg at e;split at e
 . rename_i hu;simp only[ab]at e;obtain⟨i,h1,rfl⟩:=e;exact⟨hu,h1⟩
 . cases e
end
end Go.Proofs.YtjfkdglgecgjfaaGreat.R
namespace Go.Proofs.YtjfkdglgecgjfaaGreat.R
open IntKind(i64)
open Go.RowKit
section
variable {P:Program}{w0 w:World}{ρ:lP}{h:HS}{K:Tr AV}{a:Act}{o:Oper}{r:AR}
structure Vp(P:Program)(t tx ty e:TypeId)(i:TypeInfo)(x:Value)(k:Nat)(us:List Value)(w:World):Prop where
 len:us.length=k*i.size
 AZ:∀base n cap,n+k<=cap->(Builtin.append_ #[t,tx] ty #[.slice base n cap,x]).run P w=((match base with|some ad=>storeCells (ad.add (n*i.size)) us|none=>pure ()) >>= fun _=>pure (.slice base (n+k) cap):Sem Value).run P w
 XO:∀base n cap (olds:List Value),(Builtin.firstCells i.size n (.slice base n cap)).run P w.drew=.ok olds.toArray w.drew->olds.length=n*i.size->cap<n+k->(n+k)*i.bytes<=140737488355328->
  ∃cap' cur,(Builtin.append_ #[t,tx] ty #[.slice base n cap,x]).run P w=.ok (.slice (some ⟨w.heap.size,0,none⟩) (n+k) cap') (w.drew.alloc (.cells cur e))/\n+k<=cap'/\cur.size=cap'*i.size/\∀(j:Nat) (v:Value),(olds++us)[j]?=some v->cur[j]?=some v
theorem RM{v:Value}(h:zw v=true):v.oneCell'=true:=by
 cases v<;>first|rfl|cases h
theorem nJ{xs:List AV}{us:List Value}(hc:bX ρ xs=some us)(hb:xs.all AL=true):∀u∈us,zw u=true:=fun u hm=>by
 have hul:=eA hc;obtain⟨i,hi⟩:=List.mem_iff_getElem?.1 hm;have hlt:i<xs.length:=by rw[<- hul];exact(List.getElem?_eq_some_iff.1 hi).1
 obtain⟨u',k1,k2⟩:=lU hc (List.getElem?_eq_getElem hlt);rw[hi]at k1;cases k1;exact w9 k2 (aE.1 hb _ (aR hlt))
theorem AY{olds us zs:List Value}{n k cap sz:Nat}{z:Array Value}(hz:z.size=sz)(h1:olds.length=n*sz)(h2:us.length=k*sz)(hc:n+k<=cap):
 ((olds++us).toArray++Builtin.zeroCells z (cap-(n+k))).size=cap*sz/\∀(j:Nat) (v:Value),(olds++us)[j]?=some v->((olds++us).toArray++Builtin.zeroCells z (cap-(n+k)))[j]?=some v:=by
 refine⟨?_,fun j v hj=>?_⟩
 . simp only[Array.size_append,List.size_toArray,ay,size_zeroCells,hz,h1,h2,<- aN]
   congr 1;omega
 . have hlt:=(List.getElem?_eq_some_iff.1 hj).1
   rw[Array.getElem?_append_left (by simpa using hlt)]
   simpa using hj
theorem Vy{t tx ty e:TypeId}{i:TypeInfo}{z:Value}{x:Value}{k:Nat}{us:List Value}(hb0:1<=i.bytes)(hu:P.underlying t=some (.slice e))(hi:P.info? e=some i)(hz:i.zero=some z)(hzs:z.cells.size=i.size)(hs:Src P i.size tx x k us w):Vp P t tx ty e i x k us w where
 len:=hs.newsLen
 AZ:=fun base n cap hroom=>by
  rcases hs.kind with⟨e',hk⟩|hk<;>cases base<;>simp[Builtin.append_,run_underlying hu,run_underlying hk,sizeOf,typeInfo,hi,hs.len,hroom,hs.cells]
 XO:=fun base n cap olds hold hol hg hfit=>by
  have hle:n+k<=(n+k)*i.bytes:=Nat.le_mul_of_pos_right _ hb0;have hge:=grownCap_ge w (n+k) cap e;exact⟨_,_,run_append_grow_src (P:=P) w t tx ty e i z hu hi hz base n cap olds hold x k us hs hg (by omega) (growslice_fits hg hfit),hge,AY (zs:=[]) hzs hol hs.newsLen hge⟩
theorem wO(z:Array Value)(n:Nat):Builtin.zeroCells z n=((List.range (n*z.size)).map fun i=>z[i % z.size]!).toArray:=by
 unfold Builtin.zeroCells;rw[Ay]
theorem KW{t tx ty e:TypeId}{kk kx:IntKind}{i:TypeInfo}{z:Value}{k:Nat}(hp:1<=i.size)(hb0:1<=i.bytes)(hu:P.underlying t=some (.slice e))(hux:P.underlying tx=some (.int kk))(hi:P.info? e=some i)(hz:i.zero=some z)(hzs:z.cells.size=i.size)(hkb:k*i.bytes<=140737488355328):
 Vp P t tx ty e i (.int kx (k:Int)) k ((List.range (k*z.cells.size)).map fun i=>z.cells[i % z.cells.size]!) w:=by
 have hkk:k<=k*i.bytes:=Nat.le_mul_of_pos_right _ hb0
 have hw:i64.wrap (k:Int)=(k:Int):=G.jQ (by omega) (by omega)
 have h1:¬ ((k:Int)<0):=by omega
 have h2:¬ ((281474976710656:Int)<(k:Int)*(i.bytes:Int)):=by
  rw[<- Int.natCast_mul];omega
 refine⟨by rw[aQ,List.length_range,hzs],fun base n cap hroom=>?_,fun base n cap olds hold hol hg hfit=>?_⟩
 . by_cases h6:k=0
   . subst h6
     have hw0:i64.wrap 0=0:=G.jQ (by omega) (by omega)
     cases base<;>simp[Builtin.append_,run_underlying hu,run_underlying hux,sizeOf,typeInfo,hi,asInt,asIntOf,hw0,storeCells]<;>omega
   . have h6':¬ k*i.size=0:=Nat.mul_ne_zero h6 (by omega)
     cases base<;>simp[Builtin.append_,run_underlying hu,run_underlying hux,sizeOf,typeInfo,zeroValue,hi,hz,asInt,asIntOf,hw,h1,h2,h6',hroom,wO]
 . have hle:n+k<=(n+k)*i.bytes:=Nat.le_mul_of_pos_right _ hb0
   have hfit':Builtin.nextslicecap (n+k) cap*i.bytes<=281474976710656:=growslice_fits hg hfit
   have h3:¬ (9223372036854775807<(n:Int)+(k:Int)):=by omega
   have h5:¬ (281474976710656<Builtin.nextslicecap (n+k) cap*i.bytes):=by omega
   have h7:¬ (n+k<=cap):=by omega
   have hge:=grownCap_ge w (n+k) cap e
   refine⟨grownCap w (n+k) cap e,(olds++((List.range (k*z.cells.size)).map fun i=>z.cells[i % z.cells.size]!)).toArray++Builtin.zeroCells z.cells (grownCap w (n+k) cap e-(n+k)),?_,hge,AY (zs:=[]) hzs hol (by rw[aQ,List.length_range,hzs]) hge⟩
   by_cases h6:k=0
   . subst h6
     have hw0:i64.wrap 0=0:=G.jQ (by omega) (by omega)
     have h3':¬ (9223372036854775807<(n:Int)):=by omega
     have h5':¬ (281474976710656<Builtin.nextslicecap n cap*i.bytes):=by simpa using h5
     have h7':¬ (n<=cap):=by simpa using h7
     simp[Builtin.append_,run_underlying hu,run_underlying hux,sizeOf,typeInfo,zeroValue,hi,hz,asInt,asIntOf,hw0,h3',h5',h7',hold,Question.forced,newRow,grownCap]
   . have h6':¬ k*i.size=0:=Nat.mul_ne_zero h6 (by omega)
     simp[Builtin.append_,run_underlying hu,run_underlying hux,sizeOf,typeInfo,zeroValue,hi,hz,asInt,asIntOf,hw,h1,h2,h3,h5,h6',h7,hold,Question.forced,newRow,grownCap,wO]
theorem WR.add(H:WR w0 ρ h w)(x:AO):WR w0 ρ (h.add x) w:=by
 refine⟨H.out,fun q y l hy hq=>?_,fun q q' y y' l l' hy hy' hq hq'=>?_,H.base,fun q hq=>?_⟩
 . have ne:q≠h.nx:=fun e=>by rw[e,(H.fresh _ (Nat.le_refl _)).1]at hq;cases hq
   simp only[HS.add]at hy;rw[dK _ _ ne]at hy;exact H.obj q y l hy hq
 . have ne:q≠h.nx:=fun e=>by rw[e,(H.fresh _ (Nat.le_refl _)).1]at hq;cases hq
   have ne':q'≠h.nx:=fun e=>by rw[e,(H.fresh _ (Nat.le_refl _)).1]at hq';cases hq'
   simp only[HS.add]at hy hy';rw[dK _ _ ne]at hy;rw[dK _ _ ne']at hy';exact H.inj q q' y y' l l' hy hy' hq hq'
 . simp only[HS.add]at hq ⊢;have f:=H.fresh q (by omega);exact⟨f.1,by rw[dK _ _ (by omega)];exact f.2⟩
theorem add_get(h:HS)(x:AO):(h.add x).H.get h.nx=some x:=pj _ _ _
theorem Ch{t tx ty e:TypeId}{i:TypeInfo}{x:Value}{k:Nat}{us:List Value}(A:Vp P t tx ty e i x k us w)(hp:1<=i.size)(H:WR w0 ρ h w){xs old:List AV}{olds:List Value}(hxs:bX ρ xs=some us)(hold:bX ρ old=some olds)
 {base:Option Addr} {n cap:Nat} (hf:(Builtin.firstCells i.size n (.slice base n cap)).run P w.drew=.ok olds.toArray w.drew) (hol:olds.length=n*i.size) (hg:cap<n+k) (hfit:(n+k)*i.bytes<=140737488355328) {h':HS} (hk:∀q,h'.H.get q=h.H.get q\/h'.H.get q=none) (hnx:h'.nx=h.nx):
 ∃ρ' v' w',jl h (h'.add (.cells (old++xs) e)) ρ ρ'/\(Builtin.append_ #[t,tx] ty #[.slice base n cap,x]).run P w=.ok v' w'/\conv ρ' (.sl h.nx 0 (n+k) none i.size)=some v'/\WR w0 ρ' (h'.add (.cells (old++xs) e)) w':=by
 obtain⟨cap',cur,k1,k2,k3,k4⟩:=A.XO base n cap olds hf hol hg hfit
 have hc:=dc hold hxs
 have hn:ρ h.nx=none:=(H.fresh _ (Nat.le_refl _)).1
 have H':=(H.less hk (Nat.le_of_eq hnx.symm)).add (.cells (old++xs) e)
 have hget:(h'.add (.cells (old++xs) e)).H.get h.nx=some (.cells (old++xs) e):=by rw[<- hnx];exact add_get _ _
 have W:=H'.alloc (o:=h.nx) (n:=cap'*i.size) (ob:=.cells cur e) (w':=w.drew.alloc (.cells cur e)) hget hn (.inr rfl) ⟨cur,(0,0),olds++us,by
  have:=nA w.drew (.cells cur e) w.heap.size;exact this.trans (if_pos rfl),.inl rfl,by simp only[aL];omega,by
  rw[<- eA hc,ay,hol,A.len,<- aN];exact Nat.mul_le_mul_right _ k2,fc (lI hn) _ _ hc,fun j v hj=>by simpa using k4 j v hj⟩
 refine⟨_,_,_,jl.put hn (by simp only[HS.add];omega),k1,?_,W⟩
 simp only[conv,kI,ak,dZ,Nat.sub_zero,addr,Nat.add_zero,Nat.mul_div_cancel _ (show 0<i.size by omega)]
theorem Ng{t tx ty e:TypeId}{i:TypeInfo}{x:Value}{k:Nat}{us:List Value}{xs:List AV}{s:AV}{s':Value}(A:Vp P t tx ty e i x k us w)(hp:1<=i.size)(H:WR w0 ρ h w)(hxs:bX ρ xs=some us)(hone:∀u∈us,zw u=true)
 (hs:conv ρ s=some s') (e':RB h e i.size i.bytes s xs k=some r):dB w0 ρ h w ((do pure (Next.value (<- Builtin.append_ #[t,tx] ty #[s',x])):Sem Next).run P w) r:=by
 have up:∀{v':Value} {w':World},(Builtin.append_ #[t,tx] ty #[s',x]).run P w=.ok v' w'->(do pure (Next.value (<- Builtin.append_ #[t,tx] ty #[s',x])):Sem Next).run P w=.ok (.value v') w':=fun hr=>by
  simp only[Sem.run_bind,hr,Result.andThen_ok,Sem.run_pure]
 unfold RB at e'
 split at e'
 . have hs':=dR hs
   subst hs'
   split at e'
   . rename_i hk
     have hk:k=0:=ah hk
     cases e'
     refine⟨_,w,up ?_,hs,H⟩
     subst hk
     rw[A.AZ none 0 0 (by omega)]
     rfl
   . split at e'
     . rename_i hk _ hb
       have hk:k≠0:=fun h0=>by rw[h0]at hk;cases hk
       cases e'
       obtain⟨ρ',v',w',k1,k2,k3,k4⟩:=Ch (old:=[]) A hp H hxs rfl (base:=none) (n:=0) (cap:=0) (run_firstCells_none w.drew i.size 0 0 0) (by simp) (by omega) (by rw[aL];exact aj hb) (h':=h) (fun _=>.inl rfl) rfl
       exact⟨ρ',v',w',k1,.inl (up k2),k3,k4⟩
     . cases e'
 . rename_i q f n c z
   simp only[aa]at e'
   obtain⟨cs,e1,e'⟩:=e'
   obtain⟨L,hL,hs'⟩:=ij hs
   subst hs'
   split at e'
   . cases e'
   rename_i hb
   simp only[al]at hb
   have hz:z=i.size:=ah hb.1
   have hfit:=aj hb.2
   subst hz
   have hg:=gg e1
   have hob:=H.obj _ _ _ hg hL
   have hob':=hob
   obtain⟨cur,fz,vs,o1,o2,o3,o4,o5,o6⟩:=hob'
   split at e'
   . rename_i hroom
     simp only[ab]at e'
     obtain⟨l',e2,rfl⟩:=e'
     have hcap:n+k<=dZ L f i.size c:=by
      cases c with
      |some cc=>exact aj hroom
      |none=>
       have:=aj hroom
       simp only[dZ]
       rw[Nat.le_div_iff_mul_le (by omega)];omega
     obtain⟨w',k1,k2,k3,k4⟩:=BM (P:=P) hob e2 hxs
     refine⟨ρ,_,w',jl.refl,.inl (up ?_),by simp only[conv,hL,ak];rfl,H.set hg hL k2 k3 k4⟩
     rw[A.AZ _ _ _ hcap]
     simp only[iG,Sem.run_bind,k1,Result.andThen_ok,Sem.run_pure]
   . rename_i hroom
     simp only[aa]at e'
     obtain⟨old,e2,e'⟩:=e'
     obtain⟨olds,k1,k2,k3⟩:=q9 hob e2
     split at e'
     . rename_i cc
       cases e'
       have hlt:dZ L f i.size (some cc)<n+k:=by
        simp only[dZ];rcases Nat.lt_or_ge cc (n+k)with h1|h1
        . exact h1
        . exact absurd ((Nat.ble_eq_true_of_le h1).symm.trans hroom) (by decide)
       obtain⟨ρ',v',w',q1,q2,q3,q4⟩:=Ch (old:=old) A hp H hxs k1 (base:=some (addr L f)) (n:=n) (cap:=dZ L f i.size (some cc)) (run_firstCells_some w.drew i.size n (addr L f) _ _ olds k2 (by simpa using k3)) k2 hlt hfit (h':=h) (fun _=>.inl rfl) rfl
       exact⟨ρ',v',w',q1,.inl (up q2),q3,q4⟩
     . split at e'
       . rename_i hT
         simp only[al]at hT
         have hfl:=aj hT.2
         have hT:cs.2=e:=ah hT.1
         cases e'
         have hkill:∀q',(h.kill q).H.get q'=h.H.get q'\/(h.kill q).H.get q'=none:=fun q'=>by
          simp only[HS.kill];rw[iu];split
          . exact .inr rfl
          . exact .inl rfl
         rcases Nat.lt_or_ge (dZ L f i.size none) (n+k)with hlt|hge
         . obtain⟨ρ',v',w',q1,q2,q3,q4⟩:=Ch (old:=old) A hp H hxs k1 (base:=some (addr L f)) (n:=n) (cap:=dZ L f i.size none) (run_firstCells_some w.drew i.size n (addr L f) _ _ olds k2 (by simpa using k3)) k2 hlt hfit (h':=h.kill q) hkill rfl
           exact⟨ρ',v',w',q1,.inl (up q2),q3,q4⟩
         ·
          have hge':(n+k)*i.size<=L.n-f:=by
           simp only[dZ]at hge;rw[ge_iff_le,Nat.le_div_iff_mul_le (by omega)]at hge;exact hge
          have hlen:=A.len
          have hmul:(n+k)*i.size=n*i.size+k*i.size:=aN ..
          obtain⟨w',cur',s1,s2,s3,s4,s5,s6⟩:=tR (P:=P) us (L.i+(f+n*i.size)) 0 cur w o1 o2 (by omega) hone
          have hn:ρ h.nx=none:=(H.fresh _ (Nat.le_refl _)).1
          have hlt:=H.lt hL
          refine⟨put ρ h.nx ⟨L.b,L.i+f,L.n-f⟩,_,w',jl.put hn,.inl (up (by rw[A.AZ _ _ _ hge];simp only[iG,Sem.run_bind];rw[show addr L (f+n*i.size)=⟨L.b,L.i+(f+n*i.size),none⟩ from rfl,s1];rfl)),by simp only[conv,kI,ak,dZ,addr,Nat.add_zero,Nat.sub_zero],?_⟩
          refine H.la (o:=h.nx) (x:=.cells (old++xs) e) (q:=⟨L.b,L.i+f,L.n-f⟩) s2 (fun q' ne=>?_) (pj _ _ _) (fun q' ne=>rY ne) kI (lI hn) (fun q' y l' ne hy hq' eb=>?_) (fun b hb _=>s3 b hb) ⟨(H.base q L hL).1,Nat.lt_of_lt_of_le (H.base q L hL).2 s2.size⟩ (by simp only[HS.add,HS.kill];omega) (by simp only[HS.add,HS.kill];omega)
           ⟨cur',fz,olds++us,by rw[s4,hT],by rw[s5];exact o2,by rw[s5];simp only;omega,?_,fc (lI hn) _ _ (dc k1 hxs),fun j v hj=>?_⟩
          . simp only[HS.add,HS.kill]
            rw[dK _ _ ne,iu]
            split
            . exact .inr rfl
            . exact .inl rfl
          . simp only[HS.add,HS.kill]at hy
            rw[dK _ _ ne,iu]at hy
            split at hy
            . cases hy
            . rename_i nq
              exact nq (H.inj q' q y _ l' L hy hg hq' hL eb)
          . rw[<- eA (dc k1 hxs),ay,k2,hlen];simp only;omega
          . simp only
            rw[s6]
            by_cases c1:j<n*i.size
            . rw[if_neg (by omega)]
              rw[List.getElem?_append_left (by omega)]at hj
              have:=k3 j v hj
              rw[iG]at this
              unfold addr at this
              rw[BI o1]at this
              rw[<- this];congr 1;omega
            . rw[List.getElem?_append_right (by omega),k2]at hj
              have hj2:=(List.getElem?_eq_some_iff.1 hj).1
              rw[if_pos (by omega),<- hj];congr 1;omega
       . cases e'
 . cases e'
end
end Go.Proofs.YtjfkdglgecgjfaaGreat.R
namespace Go.Proofs.YtjfkdglgecgjfaaGreat.R
open IntKind(i64)
open Go.RowKit
section
variable {P:Program}{w0 w:World}{ρ:lP}{h:HS}{K:Tr AV}{a:Act}{o:Oper}{r:AR}
theorem RZ{x y:AV}{args':List Value}(hc:bX ρ [x,y]=some args'):∃x' y',args'=[x',y']/\conv ρ x=some x'/\conv ρ y=some y':=by
 obtain⟨x',l,rfl,h1,h2⟩:=dy hc;obtain⟨y',l',rfl,h3,h4⟩:=dy h2;simp only[bX,af]at h4;subst h4;exact⟨x',y',rfl,h1,h3⟩
theorem Nz{x:AV}{args':List Value}(hc:bX ρ [x]=some args'):∃x',args'=[x']/\conv ρ x=some x':=by
 obtain⟨x',l,rfl,h1,h2⟩:=dy hc;simp only[bX,af]at h2;subst h2;exact⟨x',rfl,h1⟩
theorem wM{t:TypeId}{z:Array Value}{i:TypeInfo}(e:uh P t=some z)(hi:P.info? t=some i):∃zv,i.zero=some zv/\zv.cells=z:=by
 simp only[uh,aa,ab]at e;obtain⟨i',e1,zv,e2,e3⟩:=e;rw[hi]at e1;cases e1;exact⟨zv,e2,e3⟩
theorem zI{ats:List TypeId}{args:List AV}{args':List Value}{ty:TypeId}(H:WR w0 ρ h w)(hc:bX ρ args=some args')(e:Gg P h ats args=some r):dB w0 ρ h w ((do pure (Next.value (<- Builtin.append_ ats.toArray ty args'.toArray)):Sem Next).run P w) r:=by
 unfold Gg at e;split at e
 . rename_i t t2 s x;obtain⟨s',x',rfl,hs,hx⟩:=RZ hc;simp only[aa]at e;obtain⟨ei,e1,zc,e2,e⟩:=e;obtain⟨hu,hi⟩:=rl e1;obtain⟨zv,hz,rfl⟩:=wM e2 hi;split at e
   . cases e
   rename_i hb;simp only[al]at hb;have b1:=aj hb.1.1;have b2:=aj hb.1.2;have b3:zv.cells.size=ei.2.size:=ah hb.2;have slices:((∃e',P.underlying t2=some (.slice e'))\/P.underlying t2=some .string)->((JD x).bind fun k=>(tL h ei.2.size k x).bind fun xs=>match Nat.beq xs.length (k*ei.2.size)&&xs.all AL with
    |true=>RB h ei.1 ei.2.size ei.2.bytes s xs k
    |false=>none)=some r->dB w0 ρ h w ((do pure (Next.value (<- Builtin.append_ #[t,t2] ty #[s',x'])):Sem Next).run P w) r:=fun hk e=>by
    simp only[aa]at e
    obtain⟨k,e3,xs,e4,e⟩:=e
    split at e
    . rename_i hb2
      simp only[al]at hb2
      obtain⟨us,k1,k2,k3⟩:=J8 (P:=P) H hx e4
      have hone:=nJ k1 hb2.2
      have hul:us.length=k*ei.2.size:=(eA k1).trans (ah hb2.1)
      have src:Src P ei.2.size t2 x' k us w:=⟨hk,Og hx e3,k2,k3,hul,fun u hu=>RM (hone u hu)⟩
      exact Ng (Vy b2 hu hi hz b3 src) b1 H k1 hone hs e
    . cases e
   split at e
   . rename_i kk hk;simp only[aa]at e;obtain⟨k,e3,e⟩:=e;split at e
     . rename_i hkb;obtain⟨kx,hx'⟩:=kV e3 hx;subst hx';simp only[al]at hkb;have hzo:=vd (ρ:=ρ) zv.cells (k*zv.cells.size);have A:=KW (w:=w) (P:=P) (t:=t) (ty:=ty) (kx:=kx) b1 b2 hu hk hi hz b3 (aj hkb.1);exact Ng A b1 H hzo (nJ hzo hkb.2) hs e
     . cases e
   . rename_i e' hk;exact slices (.inl ⟨_,hk⟩) e
   . rename_i hk;exact slices (.inr hk) e
   . cases e
 . cases e
theorem Hk{ats:List TypeId}{args:List AV}{args':List Value}{ty:TypeId}(H:WR w0 ρ h w)(hc:bX ρ args=some args')(e:R3 P h ats args=some r):dB w0 ρ h w ((do pure (Next.value (<- Builtin.copy_ ats.toArray ty args'.toArray)):Sem Next).run P w) r:=by
 unfold R3 at e;split at e
 . rename_i t ats' d x;obtain⟨d',x',rfl,hd,hx⟩:=RZ hc;simp only[aa]at e;obtain⟨ei,e1,n,e2,k,e3,xs,e4,e⟩:=e;obtain⟨hu,hi⟩:=rl e1;obtain⟨us,k1,k2,_⟩:=J8 (P:=P) H hx e4;have hlx:=Og (P:=P) hx e3;split at e
   . cases e
   split at e
   . rename_i q f n' c z;simp only[aa,ab]at e;obtain⟨cs,e5,l,e6,rfl⟩:=e;obtain⟨L,hL,rfl⟩:=ij hd;simp only[JD,af]at e2;subst e2;have hg:=gg e5;obtain⟨w',s1,s2,s3,s4⟩:=BM (P:=P) (H.obj _ _ _ hg hL) e6 k1;refine⟨ρ,_,w',jl.refl,.inl ?_,rfl,H.set hg hL s2 s3 s4⟩;simp[Builtin.copy_,run_underlying hu,sizeOf,typeInfo,hi,hlx,k2,s1,goInt]
   . cases e;rw[dR hd];simp only[JD,af]at e2;subst e2;refine⟨_,w,?_,rfl,H⟩;have:Nat.min k 0=0:=Nat.min_zero k;rw[this]at k2;simp[Builtin.copy_,run_underlying hu,sizeOf,typeInfo,hi,hlx,k2,goInt]
   . cases e
 . cases e
theorem rS{t:TypeId}{x y:Operand}(ho:o.op=.makeSlice t x y)(hE:sI ρ K a o.op)(e:cC P h K o=some r):dB w0 ρ h w ((execOp a.eval o).run P w) r:=by
 simp only[cC,ho,aa]at e;obtain⟨l,e1,c,e2,e⟩:=e;have hl:=hE x l (by simp[ho,Op.operands]) e1;have hc:=hE y c (by simp[ho,Op.operands]) e2;simp only[v7,aa]at e;obtain⟨ei,e3,l',e4,c',e5,zc,e6,e⟩:=e;obtain⟨hu,hi⟩:=rl e3;obtain⟨zv,hz,rfl⟩:=wM e6 hi;obtain⟨kl,hl'⟩:=kV e4 hl;obtain⟨kc,hc'⟩:=kV e5 hc;split at e
 . rename_i hb;simp only[al]at hb;have b1:=aj hb.1.1.1.1;have b2:=aj hb.1.1.1.2;have b3:=aj hb.1.1.2;have b5:=aj hb.2;cases e;intro h₂ q H2 hx hn;have:=uN (vd zv.cells (c'*ei.2.size)) H2 hx hn;refine⟨.slice (some ⟨w.heap.size,0,none⟩) l' c',_,_,?_,AQ,this⟩;have hwl:i64.wrap (l':Int)=(l':Int):=G.jQ (by omega) (by omega);have hwc:i64.wrap (c':Int)=(c':Int):=G.jQ (by omega) (by omega);have n1:¬ ((c':Int)<0):=by omega
   have n2:¬ ((281474976710656:Int)<(ei.2.bytes:Int)*(c':Int)):=by
    rw[<- Int.natCast_mul,Nat.mul_comm];omega
   have n3:¬ ((l':Int)<0):=by omega
   have n4:¬ (c'<l'):=by omega
   by_cases h0:c'=0
   . subst h0;have hl0:l'=0:=by omega
     subst hl0;simp at hwl;rw[Nat.zero_mul];simp[execOp,ho,Instr.makeSlice,run_underlying hu,hl',hc',asInt,asIntOf,typeInfo,hi,hwl,sizeOf,newRow];congr 2;apply Array.ext';simp
   . have h0':¬ c'*ei.2.size=0:=Nat.mul_ne_zero h0 (by omega);simp[execOp,ho,Instr.makeSlice,run_underlying hu,hl',hc',asInt,asIntOf,typeInfo,hi,hwl,hwc,n1,n2,n3,n4,h0',sizeOf,zeroValue,hz,newRow,Ay]
 . cases e
theorem OV:∀{l:List AV} {ns:List Int},Us l=some ns->bX ρ l=some (ns.map (Value.int .u8))
 |[],ns,e=>by simp only[Us,af]at e;subst e;rfl
 |x::l,ns,e=>by
  unfold Us at e;split at e
  . rename_i e0;cases e0
  . rename_i n l' e0;cases e0;simp only[ab]at e;obtain⟨ns',e1,rfl⟩:=e;exact n5 rfl (OV e1)
  . cases e
theorem Wi{n lo hi:Nat}(hf:Rn (lo,hi) n):Rn (if lo == hi then(n,n+1)else(min lo n,max hi (n+1))) n:=by
 rcases hf with e|e
 . cases e;exact .inr (by simp)
 . split
   . exact .inr (by simp)
   . exact .inr (by simp only at e ⊢; omega)
theorem vY(w:World)(b n b':Nat):(w.freeze ⟨b,n,none⟩ 1).heap[b']?=if b=b' then(w.heap[b']?).map (fun| .cells c el (lo,hi)=>.cells c el (if lo == hi then(n,n+1)else(min lo n,max hi (n+1)))|o=>o)else w.heap[b']?:=by
 simp only[World.freeze,Nat.one_ne_zero,if_false,Array.getElem?_modify];split<;>rfl
theorem WR.mark(H:WR w0 ρ h w){b n:Nat}{el:TypeId}(hb:w0.heap.size<=b)(hs:w.shape? b=some (el,n)):WR w0 ρ h (w.freeze ⟨b,n,none⟩ 1):=by
 have sz:(w.freeze ⟨b,n,none⟩ 1).heap.size=w.heap.size:=by simp[World.freeze]
 have hso:pN w (w.freeze ⟨b,n,none⟩ 1):=⟨by simp[World.freeze],by simp[World.freeze],by simp[World.freeze],by omega⟩;refine⟨H.out.step hso fun b' hb'=>?_,fun q x l hx hl=>?_,H.inj,fun q l hl=>by rw[sz];exact H.base q l hl,H.fresh⟩
 . rw[vY,if_neg (by omega)]
 . have ob:=H.obj q x l hx hl;by_cases e:b=l.b
   . subst e;simp only[World.shape?]at hs;split at hs
     . rename_i c el' fz hh;cases hs;have hg:(w.freeze ⟨l.b,c.size,none⟩ 1).heap[l.b]?=some (.cells c el (if fz.1 == fz.2 then(c.size,c.size+1)else(min fz.1 c.size,max fz.2 (c.size+1)))):=by
        rw[vY,if_pos rfl,hh];rfl
       cases x with
       |cells l' T=>
        obtain⟨cur,fz',vs,h1,h2,h3,h4,h5,h6⟩:=ob
        rw[hh]at h1;cases h1
        exact⟨c,_,vs,hg,Wi h2,h3,h4,h5,h6⟩
       |map es ck=>obtain⟨_,_,h1⟩:=ob;rw[hh]at h1;cases h1
       |sD m s se st=>obtain⟨_,_,_,h1⟩:=ob;rw[hh]at h1;cases h1
       |X3 s p=>have h1:=ob.2;  rw[hh]at h1;cases h1
       |loop st pe fn n K ps fC body d=>obtain⟨_,_,_,_,h1⟩:=ob;rw[hh]at h1;cases h1
       |XL t=>have h1:=ob;simp only[iY]at h1;rw[hh]at h1;cases h1
     . cases hs
   . exact ob.mono (Ext.refl ρ) (by rw[vY,if_neg e])
theorem Mh{s d:TypeId}{x:Operand}(ho:o.op=.convert s d x)(H:WR w0 ρ h w)(hE:sI ρ K a o.op)(e:cC P h K o=some r):dB w0 ρ h w ((execOp a.eval o).run P w) r:=by
 simp only[cC,ho,aa]at e;obtain⟨v,e1,e⟩:=e;have hv:=hE x v (by simp[ho,Op.operands]) e1;have up:∀{v':Value} {w':World},(convert s d (a.eval x)).run P w=.ok v' w'->(execOp a.eval o).run P w=.ok (.value v') w':=fun hr=>by
  simp only[execOp,ho,Sem.run_bind,hr,Result.andThen_ok,Sem.run_pure]
 unfold xc at e;split at e
 . rename_i q f n c z el hs hd;split at e
   . rename_i he hz;simp only[aa,ab]at e;obtain⟨l,e2,ns,e3,rfl⟩:=e;obtain⟨L,hL,hx⟩:=ij hv;simp only[tL,aa]at e2;obtain⟨cs,e4,e5⟩:=e2;obtain⟨us,k1,k2,k3⟩:=q9 (H.obj _ _ _ (gg e4) hL) e5;rw[OV e3]at k1;cases k1;have hls:(loadCells (addr L f) n).run P w=.ok (ns.map (Value.int .u8)).toArray w:=by
      have:=run_loadCells_list (P:=P) w (addr L f) (ns.map (Value.int .u8)) k3;rwa[k2,Nat.mul_one]at this
     refine⟨_,w,up ?_,rfl,H⟩;rw[hx,run_convert_bytes_string w s d el _ _ _ hs he hd,run_bytesToString w (addr L f) n _ ns hls,foldl_push_bytes];simp[ByteArray.empty,ByteArray.emptyWithCapacity];rfl
   . cases e
 . rename_i q f n c z el hd;split at e
   . rename_i hsd he;cases e;have hsd:s=d:=ah hsd;subst hsd;obtain⟨L,hL,hx⟩:=ij hv;have key:∃w',(convert s s (a.eval x)).run P w=.ok (a.eval x) w'/\WR w0 ρ h w':=by
      rw[hx];simp only[convert,Sem.run_bind,run_underlying hd,run_underlying he,Result.andThen_ok,beq_self_eq_true,markStringish,addr]
      cases hsh:w.shape? L.b with
      |none=>exact⟨w,by simp[shape,Sem.run,hsh],H⟩
      |some sh=>
       obtain⟨el',n'⟩:=sh
       exact⟨w.freeze {block:=L.b,off:=n'} 1,by simp[shape,freeze,Sem.run,hsh],H.mark (H.base q L hL).1 hsh⟩
     obtain⟨w',k1,k2⟩:=key;exact⟨_,w',up k1,hv,k2⟩
   . cases e
 . rename_i st u el hs hd;split at e
   . rename_i he;cases e;have hx:=dR hv;intro h₂ q H2 hxq hn;have hrun:=Lib.run_convert_string_bytes (P:=P) w s d el st hs hd he;have hge:=grownCap_ge w st.size 0 el;have hnew:=Lib.bytesWorld_at_new w el st;have hsz:=Lib.bytesWorld_size w el st;have hcs:(Lib.bytesCells w el st).size=grownCap w st.size 0 el:=by
      simp only[Lib.bytesCells,Array.size_append,Array.size_map,Array.size_replicate];have:st.data.size=st.size:=rfl;omega
     have hcl:bX ρ (st.data.toList.map fun b=>AV.p (.int .u8 b.toNat))=some (byteCells st):=by
      have:=nr (ρ:=ρ) (byteCells st);unfold byteCells at this ⊢;rwa[List.map_map]at this
     refine⟨_,_,⟨w.heap.size,0,grownCap w st.size 0 el⟩,up (by rw[hx];exact hrun),by simp only[conv,kI,ak,dZ,addr,Nat.add_zero,Nat.sub_zero,Nat.div_one],?_⟩;refine H2.la (o:=q) (x:=.cells (st.data.toList.map fun b=>.p (.int .u8 b.toNat)) el) (q:=⟨w.heap.size,0,grownCap w st.size 0 el⟩) ⟨rfl,rfl,rfl,by omega⟩ (fun _ _=>.inl rfl) hxq (fun o' ne=>rY ne) kI (lI hn) (fun o' y q' _ _ hq'=>Nat.ne_of_lt (H2.base o' q' hq').2) (fun b ne hb=>Lib.bytesWorld_at_old w el st b hb) ⟨H2.out.size,by simp only;omega⟩ (Nat.le_refl _) (H2.lt' hxq)
      ⟨_,_,byteCells st,hnew,.inr (Nat.le_refl _),by simp only;omega,by simp only[aQ,Array.length_toList];exact hge,fc (lI hn) _ _ hcl,fun j v hj=>?_⟩
     simp only[aL];unfold byteCells at hj;have hlt:=(List.getElem?_eq_some_iff.1 hj).1;simp only[aQ,Array.length_toList]at hlt;unfold Lib.bytesCells;rw[Array.getElem?_append_left (by simpa using hlt)];simpa using hj
   . cases e
 . cases e
end
end Go.Proofs.YtjfkdglgecgjfaaGreat.R
namespace Go.Proofs.YtjfkdglgecgjfaaGreat.R
open Go.RowKit
section
variable {P:Program}{w0 w:World}{ρ:lP}{h:HS}{K:Tr AV}{a:Act}{o:Oper}{r:AR}
theorem WS(H:WR w0 ρ h w)(hE:sI ρ K a o.op)(e:DP P K o=some r):dB w0 ρ h w ((execOp a.eval o).run P w) r:=by
 unfold DP at e;split at e
 . cases e
 rename_i hc;rw[al]at hc;have hx:execOp a.eval o=execOp (fun x=>(KF K x).getD undef) o:=by
  refine execOp_congr o (fun cs b e=>by rw[e]at hc;simp at hc) fun x hx=>?_
  have:=aE.1 hc.2 x (by simpa using hx)
  cases hv:KF K x with
  |none=>rw[hv]at this;cases this
  |some v=>
   have hv':=hv
   simp only[KF,aa]at hv'
   obtain⟨u,h1,h2⟩:=hv'
   have h3:=n6 (ρ:=ρ) h2
   rw[hE x u hx h1]at h3
   simpa using h3
 rw[hx];split at e
 . rename_i v hv;cases e;exact⟨v,w,rV hv w,iI v,H⟩
 . rename_i f args hv;cases e;exact⟨args.toList,by rw[Array.toArray_toList];exact rV hv w,E8 args.toList⟩
 . cases e
theorem Gv{f:Fn}{x y:List AV}{v:Value}(h:conv ρ (.fn f x y)=some v):∃x' y',v=.func f x' y':=by
 simp only[conv,aa,ab]at h;obtain⟨x',_,y',_,rfl⟩:=h;exact⟨_,_,rfl⟩
theorem Gw{q:Nat}{v:Value}(h:conv ρ (.yl q)=some v):∃l:Loc,v=.func (.yield l.b) #[] #[]:=by
 simp only[conv,ab]at h;obtain⟨l,_,rfl⟩:=h;exact⟨l,rfl⟩
theorem xa{t:TypeId}{x:AV}{v:Value}(h:conv ρ (.rE t x)=some v):∃u,conv ρ x=some u/\v=.iface t u:=by
 simp only[conv,ab]at h;obtain⟨l,h1,rfl⟩:=h;exact⟨l,h1,rfl⟩
def Vr:Value->Value->Prop
 |.pointer (some _),.pointer none| .pointer none,.pointer (some _)| .slice (some _) _ _,.slice none _ _| .slice none _ _,.slice (some _) _ _| .map (some _),.map none| .map none,.map (some _)
 |.func _ _ _,.nilFunc| .nilFunc,.func _ _ _| .iface _ _,.nilIface| .nilIface,.iface _ _=>True
 |_,_=>False
theorem so{t:TypeId}{x y:Value}{b:Bool}(h:∀d,(Op.equalIn (d+1) t x y).run P w=.ok b w):(Op.equal t x y).run P w=.ok b w:=h 9999
theorem eq_nil{t:TypeId}{x y:AV}{x' y':Value}{b:Bool}(e:Yw P t x y=some b)(hx:conv ρ x=some x')(hy:conv ρ y=some y'):(Op.equal t x' y').run P w=.ok b w/\Vr x' y':=by
 unfold Yw at e;split at e
 . split at e
   . rename_i hu;cases e;obtain⟨l,_,rfl⟩:=jx hx;rw[dR hy];exact⟨so fun d=>by simp[Op.equalIn,run_underlying hu],trivial⟩
   . cases e
 . split at e
   . rename_i hu;cases e;obtain⟨l,_,rfl⟩:=jx hy;rw[dR hx];exact⟨so fun d=>by simp[Op.equalIn,run_underlying hu],trivial⟩
   . cases e
 . split at e
   . rename_i hu;cases e;obtain⟨l,_,rfl⟩:=ij hx;rw[dR hy];exact⟨so fun d=>by simp[Op.equalIn,run_underlying hu],trivial⟩
   . cases e
 . split at e
   . rename_i hu;cases e;obtain⟨l,_,rfl⟩:=ij hy;rw[dR hx];exact⟨so fun d=>by simp[Op.equalIn,run_underlying hu],trivial⟩
   . cases e
 . split at e
   . rename_i hu;cases e;obtain⟨l,_,rfl⟩:=lj hx;rw[dR hy];exact⟨so fun d=>by simp[Op.equalIn,run_underlying hu],trivial⟩
   . cases e
 . split at e
   . rename_i hu;cases e;obtain⟨l,_,rfl⟩:=lj hy;rw[dR hx];exact⟨so fun d=>by simp[Op.equalIn,run_underlying hu],trivial⟩
   . cases e
 . split at e
   . rename_i hu;cases e;obtain⟨l,l',rfl⟩:=Gv hx;rw[dR hy];exact⟨so fun d=>by simp[Op.equalIn,run_underlying hu],trivial⟩
   . cases e
 . split at e
   . rename_i hu;cases e;obtain⟨l,l',rfl⟩:=Gv hy;rw[dR hx];exact⟨so fun d=>by simp[Op.equalIn,run_underlying hu],trivial⟩
   . cases e
 . split at e
   . rename_i hu;cases e;obtain⟨l,rfl⟩:=Gw hx;rw[dR hy];exact⟨so fun d=>by simp[Op.equalIn,run_underlying hu],trivial⟩
   . cases e
 . split at e
   . rename_i hu;cases e;obtain⟨l,rfl⟩:=Gw hy;rw[dR hx];exact⟨so fun d=>by simp[Op.equalIn,run_underlying hu],trivial⟩
   . cases e
 . split at e
   . rename_i hu;cases e;obtain⟨l,_,rfl⟩:=xa hx;rw[dR hy];exact⟨so fun d=>by simp[Op.equalIn,run_underlying hu],trivial⟩
   . cases e
 . split at e
   . rename_i hu;cases e;obtain⟨l,_,rfl⟩:=xa hy;rw[dR hx];exact⟨so fun d=>by simp[Op.equalIn,run_underlying hu],trivial⟩
   . cases e
 . cases e
theorem Tl{op:BinOp}{t t':TypeId}{x y:Operand}(ho:o.op=.binOp op t x y t')(H:WR w0 ρ h w)(hE:sI ρ K a o.op)(e:cC P h K o=some r):dB w0 ρ h w ((execOp a.eval o).run P w) r:=by
 simp only[cC,ho,aa]at e;obtain⟨u,e1,v,e2,e⟩:=e;have hu:=hE x u (by simp[ho,Op.operands]) e1;have hv:=hE y v (by simp[ho,Op.operands]) e2;have key:∀{b:Bool},Yw P t u v=some b->(eqGuard op t x y (a.eval x) (a.eval y)).run P w=.ok () w/\(binOp .eql t (a.eval x) (a.eval y)).run P w=.ok (.bool b) w/\(binOp .neq t (a.eval x) (a.eval y)).run P w=.ok (.bool (!b)) w:=fun{b} hq=>by
  obtain⟨q1,q2⟩:=eq_nil (P:=P) (w:=w) hq hu hv;revert q1 q2;generalize a.eval x=x';generalize a.eval y=y';intro q1 q2;refine⟨?_,?_,?_⟩
  . unfold eqGuard;cases op<;>first|rfl|(unfold Vr at q2;split at q2<;>first|rfl|cases q2)
  . unfold Vr at q2;split at q2<;>first|(simp[binOp,q1];done)|cases q2
  . unfold Vr at q2;split at q2<;>first|(simp[binOp,q1];done)|cases q2
 split at e
 . simp only[ab]at e;obtain⟨b,e3,rfl⟩:=e;obtain⟨k1,k2,_⟩:=key e3;exact⟨.bool b,w,by simp only[execOp,ho,Sem.run_bind,k1,k2,Result.andThen_ok,Sem.run_pure],rfl,H⟩
 . simp only[ab]at e;obtain⟨b,e3,rfl⟩:=e;obtain⟨k1,_,k3⟩:=key e3;exact⟨.bool (!b),w,by simp only[execOp,ho,Sem.run_bind,k1,k3,Result.andThen_ok,Sem.run_pure],rfl,H⟩
 . cases e
theorem gv{α β:Type}:∀(e:Sem α) (f:α->Sem β),cw P (e >>= f)=(cw P e).bind fun a=>cw P (f a):=by
 intro e f;show cw P (Sem.bind e f)=_
 induction e with
 |pure b=>rfl
 |program k ih=>simp only[Sem.bind,cw,ih]
 |mark m k ih=>simp only[Sem.bind,cw,ih]
 |_=>rfl
theorem ey{k v:AV}{b:Nat}{es:List (AV×AV×Nat)}{vs:List MapEntry}(e:dU ρ ((k,v,b)::es)=some vs):∃k' v' vs',vs=⟨k',v',b⟩::vs'/\conv ρ k=some k'/\conv ρ v=some v'/\dU ρ es=some vs':=by
 simp only[dU,aa,ab]at e;obtain⟨k',h1,v',h2,l,h3,h4⟩:=e;exact⟨k',v',l,h4.symm,h1,h2,h3⟩
theorem nZ{k v:AV}{b:Nat}{es:List (AV×AV×Nat)}{vs:List MapEntry}{k' v':Value}(h1:conv ρ k=some k')(h2:conv ρ v=some v')(h3:dU ρ es=some vs):dU ρ ((k,v,b)::es)=some (⟨k',v',b⟩::vs):=by
 simp only[dU,h1,h2,h3,ae,ak]
theorem uv:∀{es:List (AV×AV×Nat)} {vs:List MapEntry},dU ρ es=some vs->vs.length=es.length
 |[],vs,e=>by simp only[dU,af]at e;rw[<- e];rfl
 |(k,v,b)::es,vs,e=>by
  obtain⟨_,_,_,rfl,_,_,h⟩:=ey e;simp only[bw,uv h]
theorem qu:∀{es:List (AV×AV×Nat)} {vs:List MapEntry} {i:Nat} {q:AV×AV×Nat},dU ρ es=some vs->es[i]?=some q->∃k' v',vs[i]?=some ⟨k',v',q.2.2⟩/\conv ρ q.1=some k'/\conv ρ q.2.1=some v'
 |[],_,_,_,_,hi=>by simp at hi
 |(k,v,b)::es,_,0,q,e,hi=>by
  obtain⟨k',v',_,rfl,h1,h2,_⟩:=ey e;simp only[List.getElem?_cons_zero,af]at hi;subst hi;exact⟨k',v',rfl,h1,h2⟩
 |(k,v,b)::es,_,i+1,q,e,hi=>by
  obtain⟨k',v',_,rfl,_,_,h⟩:=ey e;simp only[List.getElem?_cons_succ]at hi ⊢;exact qu h hi
theorem re:∀{es es':List (AV×AV×Nat)} {vs vs':List MapEntry},dU ρ es=some vs->dU ρ es'=some vs'->dU ρ (es++es')=some (vs++vs')
 |[],_,_,_,e,e'=>by simp only[dU,af]at e;rw[<- e];exact e'
 |(k,v,b)::es,_,_,_,e,e'=>by
  obtain⟨k',v',_,rfl,h1,h2,h⟩:=ey e;exact nZ h1 h2 (re h e')
theorem AP:∀{es:List (AV×AV×Nat)} {vs:List MapEntry} (i:Nat),dU ρ es=some vs->dU ρ (es.eraseIdx i)=some (vs.eraseIdx i)
 |[],_,_,e=>by simp only[dU,af]at e;rw[<- e];rfl
 |(k,v,b)::es,_,0,e=>by obtain⟨_,_,_,rfl,_,_,h⟩:=ey e;exact h
 |(k,v,b)::es,_,i+1,e=>by
  obtain⟨k',v',_,rfl,h1,h2,h⟩:=ey e;exact nZ h1 h2 (AP i h)
theorem np{f:AV×AV×Nat->AV×AV×Nat}{g:MapEntry->MapEntry}(hf:∀q k' v',conv ρ q.1=some k'->conv ρ q.2.1=some v'->∃k2 v2 b2,g ⟨k',v',q.2.2⟩=⟨k2,v2,b2⟩/\(f q).2.2=b2/\conv ρ (f q).1=some k2/\conv ρ (f q).2.1=some v2):
 ∀{es:List (AV×AV×Nat)} {vs:List MapEntry} (i:Nat),dU ρ es=some vs->dU ρ (es.modify i f)=some (vs.modify i g)
 |[],_,i,e=>by simp only[dU,af]at e;rw[<- e];cases i<;>rfl
 |(k,v,b)::es,_,0,e=>by
  obtain⟨k',v',vs',rfl,h1,h2,h⟩:=ey e;obtain⟨k2,v2,b2,g1,g2,g3,g4⟩:=hf (k,v,b) k' v' h1 h2;simp only[List.modify_zero_cons];rw[g1,<- g2];generalize hq:f (k,v,b)=q at*
  obtain⟨qk,qv,qb⟩:=q;exact nZ g3 g4 h
 |(k,v,b)::es,_,i+1,e=>by
  obtain⟨k',v',_,rfl,h1,h2,h⟩:=ey e;simp only[List.modify_succ_cons];exact nZ h1 h2 (np hf i h)
end
end Go.Proofs.YtjfkdglgecgjfaaGreat.R
namespace Go.Proofs.YtjfkdglgecgjfaaGreat.R
open Go.RowKit
section
variable {P:Program}{w0 w:World}{ρ:lP}{h:HS}{K:Tr AV}{a:Act}{o:Oper}{r:AR}
def IE:List MapEntry->List MapEntry->Prop
 |[],[]=>True
 |e::es,f::fs=>e.key=f.key/\IE es fs
 |_,_=>False
theorem Jw:∀{es:List (AV×AV×Nat)} {ks vs:List MapEntry},Jv es=some ks->dU ρ es=some vs->IE ks vs
 |[],ks,vs,e,e'=>by
  simp only[Jv,af]at e;simp only[dU,af]at e';subst e;subst e';trivial
 |(k,v,b)::es,ks,vs,e,e'=>by
  simp only[Jv,aa,ab]at e;obtain⟨k0,h1,ks',h2,rfl⟩:=e;obtain⟨k',v',vs',rfl,h3,_,h4⟩:=ey e';have:=n6 (ρ:=ρ) h1;rw[h3]at this;cases this;exact⟨rfl,Jw h2 h4⟩
theorem ru{d:TypeDesc}{k:Value}:∀{ks vs:List MapEntry} {i:Nat} {q:Option (Option (Nat×Value))},IE ks vs->Instr.findNow d k ks i=q->
 (q=none->Instr.findNow d k vs i=none)/\(q=some none->Instr.findNow d k vs i=some none)/\(∀j v,q=some (some (j,v))->i<=j/\∃e,vs[j-i]?=some e/\Instr.findNow d k vs i=some (some (j,e.val)))
 |[],[],i,q,_,e=>by subst e;simp[Instr.findNow]
 |[],_::_,_,_,h,_=>h.elim
 |_::_,[],_,_,h,_=>h.elim
 |x::ks,y::vs,i,q,h,e=>by
  obtain⟨h1,h2⟩:=h;simp only[Instr.findNow]at e ⊢;rw[h1]at e
  cases hs:Instr.sameNow d k y.key with
  |none=>rw[hs]at e;subst e;simp
  |some b=>
   rw[hs]at e
   cases b with
   |true=>subst e;simp
   |false=>
    simp only at e ⊢
    obtain⟨g1,g2,g3⟩:=ru (i:=i+1) h2 e
    refine⟨g1,g2,fun j v hq=>?_⟩
    obtain⟨l1,f,l2,l3⟩:=g3 j v hq
    refine⟨by omega,f,?_,l3⟩
    rw[show j-i=(j-(i+1))+1 by omega,List.getElem?_cons_succ];exact l2
theorem xw{kt:TypeId}{k:Value}:∀{ks vs:List MapEntry} {i:Nat} {q:Option (Nat×Value)},IE ks vs->cw P (Instr.findAsking kt k ks i)=some q->
 (q=none->(Instr.findAsking kt k vs i).run P w=.ok none w)/\(∀j v,q=some (j,v)->i<=j/\∃e,vs[j-i]?=some e/\(Instr.findAsking kt k vs i).run P w=.ok (some (j,e.val)) w)
 |[],[],i,q,_,e=>by
  simp only[Instr.findAsking]at e;cases e;exact⟨fun _=>rfl,fun _ _ h=>by cases h⟩
 |[],_::_,_,_,h,_=>h.elim
 |_::_,[],_,_,h,_=>h.elim
 |x::ks,y::vs,i,q,h,e=>by
  obtain⟨h1,h2⟩:=h;simp only[Instr.findAsking,gv,aa]at e;obtain⟨b,e1,e2⟩:=e;rw[h1]at e1;have hb:=rV e1 w;simp only[Instr.findAsking,Sem.run_bind,hb,Result.andThen_ok]
  cases b with
  |true=>
   simp only[if_true]at e2 ⊢
   cases e2
   exact⟨fun h=>(by cases h),fun j v hq=>(by cases hq;exact⟨Nat.le_refl _,y,by simp,rfl⟩)⟩
  |false=>
   simp only[aH,if_false]at e2 ⊢
   obtain⟨g1,g2⟩:=xw (i:=i+1) h2 e2
   refine⟨g1,fun j v hq=>?_⟩
   obtain⟨l1,f,l2,l3⟩:=g2 j v hq
   refine⟨by omega,f,?_,l3⟩
   rw[show j-i=(j-(i+1))+1 by omega,List.getElem?_cons_succ];exact l2
theorem BD{t:TypeId}{d:TypeDesc}(e:cw P (underlying t)=some d):P.underlying t=some d:=by
 unfold underlying program at e;rw[gv]at e;simp only[cw,ae]at e
 cases hu:P.underlying t with
 |none=>rw[hu]at e;cases e
 |some d'=>rw[hu]at e;cases e;rfl
theorem GY{kt:TypeId}{k:Value}{ks vs:List MapEntry}{q:Option (Nat×Value)}(hs:IE ks vs)(e:cw P (Instr.findKey kt k ks)=some q):
 (q=none->(Instr.findKey kt k vs).run P w=.ok none w)/\(∀j v,q=some (j,v)->∃e,vs[j]?=some e/\(Instr.findKey kt k vs).run P w=.ok (some (j,e.val)) w):=by
 simp only[Instr.findKey,gv,aa]at e
 obtain⟨d,e1,e2⟩:=e
 have hu:=BD e1
 simp only[Instr.findKey,Sem.run_bind,run_underlying hu,Result.andThen_ok]
 cases hf:Instr.findNow d k ks 0 with
 |none=>
  rw[hf]at e2
  obtain⟨g1,_,_⟩:=ru hs hf
  rw[g1 rfl]
  obtain⟨l1,l2⟩:=xw (w:=w) hs e2
  exact⟨l1,fun j v hq=>by obtain⟨_,f,l3,l4⟩:=l2 j v hq;exact⟨f,l3,l4⟩⟩
 |some q'=>
  rw[hf]at e2
  simp only[cw,pure]at e2
  cases e2
  obtain⟨_,g2,g3⟩:=ru hs hf
  refine⟨fun hq=>?_,fun j v hq=>?_⟩
  . rw[g2 (by rw[hq])];rfl
  . obtain⟨_,f,l2,l3⟩:=g3 j v (by rw[hq])
    rw[l3]
    exact⟨f,l2,rfl⟩
theorem nL{q:Nat}{m:List (AV×AV×Nat)×Nat}(e:mapOf h q=some m):h.H.get q=some (.map m.1 m.2):=by
 simp only[mapOf,aa]at e;obtain⟨x,h1,h2⟩:=e;cases x<;>simp only[af,reduceCtorEq]at h2;subst h2;exact h1
theorem toArray_isEmpty{es:List (AV×AV×Nat)}{vs:List MapEntry}(e:dU ρ es=some vs):vs.toArray.isEmpty=es.isEmpty:=by
 have:=uv e;cases es<;>cases vs<;>first|rfl|(simp at this)
theorem xv{kt:TypeId}{k:Value}{em:Bool}{es:List (AV×AV×Nat)}{vs:List MapEntry}{q:Option Nat}(hc:dU ρ es=some vs)(e:Fk P kt k em es=some q):
 (Instr.checkKey em 10000 kt k).run P w=.ok () w/\(q=none->(Instr.findKey kt k vs).run P w=.ok none w)/\(∀i,q=some i->∃e,vs[i]?=some e/\(Instr.findKey kt k vs).run P w=.ok (some (i,e.val)) w):=by
 simp only[Fk,aa,ab]at e
 obtain⟨u,e1,ks,e2,r,e3,rfl⟩:=e
 obtain⟨g1,g2⟩:=GY (w:=w) (Jw e2 hc) e3
 refine⟨rV e1 w,fun hq=>?_,fun i hq=>?_⟩
 . cases r with
   |none=>exact g1 rfl
   |some p=>cases hq
 . cases r with
   |none=>cases hq
   |some p=>cases hq;exact g2 p.1 p.2 rfl
theorem pX(H:WR w0 ρ h w){q:Nat}{L:Loc}{m:List (AV×AV×Nat)×Nat}(e:mapOf h q=some m)(hL:ρ q=some L):∃vs,dU ρ m.1=some vs/\w.heap[L.b]?=some (.map vs.toArray m.2):=H.obj _ _ _ (nL e) hL
theorem dX{b:Nat}{vs:Array MapEntry}{c:Nat}(hb:w.heap[b]?=some (.map vs c)):(getObj b).run P w=.ok (.map vs c) w:=by
 simp[getObj,Sem.run,hb]
theorem jD{b:Nat}{vs:Array MapEntry}{c:Nat}{ob:Obj}(hb:w.heap[b]?=some (.map vs c)):(setObj b ob).run P w=.ok () {w with heap:=w.heap.setIfInBounds b ob}:=by
 simp[setObj,Sem.run,hb]
theorem fL(w:World)(b:Nat)(ob:Obj):pN w {w with heap:=w.heap.setIfInBounds b ob}:=⟨rfl,rfl,rfl,by simp⟩
theorem fY(w:World)(b:Nat)(ob:Obj)(b':Nat)(hb:b'≠b):({w with heap:=w.heap.setIfInBounds b ob}:World).heap[b']?=w.heap[b']?:=by
 simp only[Array.getElem?_setIfInBounds_ne (fun e=>hb e.symm)]
theorem mZ(w:World){b:Nat}(ob:Obj){x:Obj}(hb:w.heap[b]?=some x):({w with heap:=w.heap.setIfInBounds b ob}:World).heap[b]?=some ob:=by
 have:=(Array.getElem?_eq_some_iff.1 hb).1;simp[this]
theorem zL{t:TypeId}{x y:Operand}{c:Bool}(ho:o.op=.lookup t x y c)(H:WR w0 ρ h w)(hE:sI ρ K a o.op)(e:cC P h K o=some r):dB w0 ρ h w ((execOp a.eval o).run P w) r:=by
 simp only[cC,ho,aa]at e;obtain⟨m,e1,k,e2,e⟩:=e;have hm:=hE x m (by simp[ho,Op.operands]) e1;have hk:=hE y k (by simp[ho,Op.operands]) e2;unfold G9 at e;split at e
 . rename_i q;simp only[aa,ab]at e;obtain⟨mm,e3,kv,e4,ty,e5,f,e6,p,e7,rfl⟩:=e;obtain⟨L,hL,hx⟩:=lj hm;obtain⟨vs,k1,k2⟩:=pX H e3 hL;obtain⟨k3,k4,k5⟩:=xv (w:=w) k1 e6;have hy:a.eval y=kv:=by have:=n6 (ρ:=ρ) e4;rw[hk]at this;simpa using this
   have hu:=ma e5
   cases f with
   |none=>
    simp only[ab,aa]at e7
    obtain⟨z,⟨i,h1,h2⟩,rfl⟩:=e7
    have hz:(zeroValue ty.2).run P w=.ok z w:=mH (by rw[h1,ak,h2])
    have:(Instr.lookup t (a.eval x) (a.eval y) c).run P w=.ok (if c then .tuple #[z,.bool false]else z) w:=by
     rw[hx,hy];simp only[Instr.lookup,Sem.run_bind,run_underlying hu,Result.andThen_ok,dX k2,Sem.run_pure,toArray_isEmpty k1,k3,k4 rfl,hz]
    have hrun:(execOp a.eval o).run P w=.ok (.value (if c then .tuple #[z,.bool false]else z)) w:=by simp only[execOp,ho,Sem.run_bind,this,Result.andThen_ok,Sem.run_pure]
    cases c with
    |true=>exact⟨.tuple #[z,.bool false],w,hrun,by simp only[conv,bX,iI,ae,ak],H⟩
    |false=>exact⟨z,w,hrun,iI z,H⟩
   |some i=>
    simp only[ab]at e7
    obtain⟨q',h1,rfl⟩:=e7
    obtain⟨en,h2,h3⟩:=k5 i rfl
    obtain⟨k',v',h4,h5,h6⟩:=qu k1 h1
    rw[h2]at h4;cases h4
    have:(Instr.lookup t (a.eval x) (a.eval y) c).run P w=.ok (if c then .tuple #[v',.bool true]else v') w:=by
     rw[hx,hy];simp only[Instr.lookup,Sem.run_bind,run_underlying hu,Result.andThen_ok,dX k2,Sem.run_pure,toArray_isEmpty k1,k3,h3]
    have hrun:(execOp a.eval o).run P w=.ok (.value (if c then .tuple #[v',.bool true]else v')) w:=by simp only[execOp,ho,Sem.run_bind,this,Result.andThen_ok,Sem.run_pure]
    cases c with
    |true=>exact⟨.tuple #[v',.bool true],w,hrun,by simp only[conv,bX,h6,ae,ak],H⟩
    |false=>exact⟨v',w,hrun,h6,H⟩
 . cases e
theorem Oc{es:List (AV×AV×Nat)}{vs:List MapEntry}{i:Nat}{kv:Value}(hc:dU ρ es=some vs)(e:Ob es i kv=true):(Instr.keyThatStays (((vs.toArray[i]?).map (·.key)).getD kv) kv).run P w=.ok kv w:=by
 unfold Ob at e;split at e
 . rename_i q hq;split at e
   . rename_i k0 hk;obtain⟨k',v',h1,h2,_⟩:=qu hc hq;have:=n6 (ρ:=ρ) hk;rw[h2]at this;cases this;simp only[List.getElem?_toArray,h1,ak,Option.getD_some,Instr.keyThatStays,e,if_true,Sem.run_pure]
   . cases e
 . cases e
theorem wa(vs:List MapEntry)(i:Nat)(g:MapEntry->MapEntry):vs.toArray.modify i g=(vs.modify i g).toArray:=by
 apply Array.ext';simp
theorem FM{t:TypeId}{x y z:Operand}(ho:o.op=.mapUpdate t x y z\/o.op=.insert t x y z)(H:WR w0 ρ h w)(hE:sI ρ K a o.op)(e:cC P h K o=some r):dB w0 ρ h w ((execOp a.eval o).run P w) r:=by
 have e':∃m k v,eB K x=some m/\eB K y=some k/\eB K z=some v/\xL P h t m k v=some r:=by
  rcases ho with ho|ho<;>
  . simp only[cC,ho,aa]at e;obtain⟨m,e1,k,e2,v,e3,e⟩:=e;exact⟨m,k,v,e1,e2,e3,e⟩
 obtain⟨m,k,v,e1,e2,e3,e⟩:=e';have mem:∀u,u∈[x,y,z]->u∈o.op.operands:=fun u hu=>by rcases ho with ho|ho<;>simpa[ho,Op.operands]using hu
 have hm:=hE x m (mem x (by simp)) e1;have hk:=hE y k (mem y (by simp)) e2;have hv:=hE z v (mem z (by simp)) e3;have up:∀{w':World},(Instr.mapUpdate t (a.eval x) (a.eval y) (a.eval z)).run P w=.ok () w'->(execOp a.eval o).run P w=.ok .skip w':=fun{w'} hr=>by
  rcases ho with ho|ho<;>simp only[execOp,ho,Sem.run_bind,hr,Result.andThen_ok,Sem.run_pure]
 unfold xL at e;split at e
 . rename_i q;simp only[aa]at e;obtain⟨mm,e3,kv,e4,ty,e5,f,e6,e⟩:=e;obtain⟨L,hL,hx⟩:=lj hm;obtain⟨vs,k1,k2⟩:=pX H e3 hL;obtain⟨k3,k4,k5⟩:=xv (w:=w) k1 e6;have hy:a.eval y=kv:=by have:=n6 (ρ:=ρ) e4;rw[hk]at this;simpa using this
   have hu:=ma e5;have hg:=nL e3;split at e
   . rename_i i;obtain⟨en,h2,h3⟩:=k5 i rfl;split at e
     . rename_i hkept;cases e;have hkp:=Oc (P:=P) (w:=w) k1 hkept;refine⟨ρ,undef,_,jl.refl,.inr ⟨up ?_,rfl⟩,rfl,H.set hg hL (fL w L.b (.map (vs.modify i fun e=>{e with key:=kv,val:=a.eval z}).toArray mm.2)) (fun b hb=>fY w L.b _ b hb) ⟨_,np (f:=fun e=>(E5 kv,v,e.2.2)) (g:=fun e=>{e with key:=kv,val:=a.eval z}) (fun q k' v' _ _=>⟨_,_,_,rfl,rfl,iI kv,hv⟩) i k1,mZ w _ k2⟩⟩;rw[hx,hy];simp only[Instr.mapUpdate,Sem.run_bind,run_underlying hu,Result.andThen_ok,dX k2,k3,h3,hkp,jD k2,wa]
     . cases e
   . cases e;refine⟨ρ,undef,_,jl.refl,.inr ⟨up ?_,rfl⟩,rfl,H.set hg hL (fL w L.b (.map (vs++[(⟨kv,a.eval z,mm.2⟩:MapEntry)]).toArray (mm.2+1))) (fun b hb=>fY w L.b _ b hb) ⟨_,re k1 (nZ (iI kv) hv rfl),mZ w _ k2⟩⟩;rw[hx,hy];simp only[Instr.mapUpdate,Sem.run_bind,run_underlying hu,Result.andThen_ok,dX k2,k3,k4 rfl,jD k2,List.push_toArray]
 . cases e
theorem tC{t:TypeId}{x y:Operand}(ho:o.op=.mapEntry t x y)(H:WR w0 ρ h w)(hE:sI ρ K a o.op)(e:cC P h K o=some r):dB w0 ρ h w ((execOp a.eval o).run P w) r:=by
 simp only[cC,ho,aa]at e;obtain⟨m,e1,k,e2,e⟩:=e;have hm:=hE x m (by simp[ho,Op.operands]) e1;have hk:=hE y k (by simp[ho,Op.operands]) e2;have up:∀{v':Value} {w':World},(Instr.mapEntry t (a.eval x) (a.eval y)).run P w=.ok v' w'->(execOp a.eval o).run P w=.ok (.value v') w':=fun hr=>by
  simp only[execOp,ho,Sem.run_bind,hr,Result.andThen_ok,Sem.run_pure]
 unfold Ha at e;split at e
 . rename_i q;simp only[aa]at e;obtain⟨mm,e3,kv,e4,ty,e5,f,e6,e⟩:=e;obtain⟨L,hL,hx⟩:=lj hm;obtain⟨vs,k1,k2⟩:=pX H e3 hL;obtain⟨k3,k4,k5⟩:=xv (w:=w) k1 e6;have hy:a.eval y=kv:=by have:=n6 (ρ:=ρ) e4;rw[hk]at this;simpa using this
   have hu:=ma e5;have hg:=nL e3;split at e
   . rename_i i;obtain⟨en,h2,h3⟩:=k5 i rfl;split at e
     . rename_i en' hkept hq;cases e;have hkp:=Oc (P:=P) (w:=w) k1 hkept;obtain⟨k',v',h4,h5,h6⟩:=qu k1 hq;rw[h2]at h4;cases h4;simp only[List.getElem?_toArray,h2,ak,Option.getD_some]at hkp;refine⟨ρ,.tuple #[v',.int .i64 en'.2.2],_,jl.refl,.inl (up ?_),by simp only[conv,bX,h6,EO,ae,ak],H.set hg hL (fL w L.b (.map (vs.modify i fun e=>{e with key:=kv}).toArray mm.2)) (fun b hb=>fY w L.b _ b hb) ⟨_,np (f:=fun e=>(E5 kv,e.2.1,e.2.2)) (g:=fun e=>{e with key:=kv}) (fun q k' v' _ hv'=>⟨_,_,_,rfl,rfl,iI kv,hv'⟩) i k1,mZ w _ k2⟩⟩;rw[hx,hy];simp only[Instr.mapEntry,Sem.run_bind,run_underlying hu,Result.andThen_ok,dX k2,k3,h3,hkp,jD k2,wa,Sem.run_pure,List.getElem?_toArray,h2,ak,Option.getD_some,goInt]
     . cases e
   . simp only[ab,aa]at e;obtain⟨z,⟨i,h1,h2⟩,rfl⟩:=e;have hz:(zeroValue ty.2).run P w=.ok z w:=mH (by rw[h1,ak,h2]);refine⟨ρ,.tuple #[z,.int .i64 mm.2],_,jl.refl,.inl (up ?_),by simp only[conv,bX,iI,EO,ae,ak],H.set hg hL (fL w L.b (.map (vs++[(⟨kv,z,mm.2⟩:MapEntry)]).toArray (mm.2+1))) (fun b hb=>fY w L.b _ b hb) ⟨_,re k1 (nZ (iI kv) (iI z) rfl),mZ w _ k2⟩⟩;rw[hx,hy];simp only[Instr.mapEntry,Sem.run_bind,run_underlying hu,Result.andThen_ok,dX k2,k3,k4 rfl,hz,jD k2,List.push_toArray,Sem.run_pure,goInt]
 . cases e
theorem CZ{n:Nat}:∀{es:List (AV×AV×Nat)} {vs:List MapEntry} {i:Nat},dU ρ es=some vs->(es.findIdx? fun e=>Nat.beq e.2.2 n)=some i->(vs.findIdx? fun e=>(e.born:Int) == (n:Int))=some i
 |[],vs,i,_,e=>by simp at e
 |(k,v,b)::es,vs,i,hc,e=>by
  obtain⟨k',v',vs',rfl,_,_,h3⟩:=ey hc;rw[List.findIdx?_cons]at e ⊢;have hb:((b:Int) == (n:Int))=Nat.beq b n:=by
   cases hq:Nat.beq b n with
   |true=>rw[ah hq];simp
   |false=>
    have:b≠n:=fun h0=>by rw[h0,Nat.beq_refl]at hq;cases hq
    simp;omega
  simp only[hb];simp only at e;split
  . rename_i hq;rw[if_pos hq]at e;exact e
  . rename_i hq;rw[if_neg hq]at e;simp only[ab]at e ⊢;obtain⟨j,h4,h5⟩:=e;exact⟨j,CZ h3 h4,h5⟩
theorem Tp{t:TypeId}{x y z:Operand}(ho:o.op=.entryStore t x y z)(H:WR w0 ρ h w)(hE:sI ρ K a o.op)(e:cC P h K o=some r):dB w0 ρ h w ((execOp a.eval o).run P w) r:=by
 simp only[cC,ho,aa]at e;obtain⟨m,e1,k,e2,v,e3,e⟩:=e;have hm:=hE x m (by simp[ho,Op.operands]) e1;have hk:=hE y k (by simp[ho,Op.operands]) e2;have hv:=hE z v (by simp[ho,Op.operands]) e3;unfold Ll at e;split at e
 . rename_i q;simp only[aa,ab]at e;obtain⟨mm,e3,n,e4,i,e5,rfl⟩:=e;obtain⟨L,hL,hx⟩:=lj hm;obtain⟨vs,k1,k2⟩:=pX H e3 hL;obtain⟨kk,hy⟩:=kV e4 hk;have hg:=nL e3;have hf:=CZ k1 e5;refine⟨ρ,undef,_,jl.refl,.inr ⟨?_,rfl⟩,rfl,H.set hg hL (fL w L.b (.map (vs.modify i fun e=>{e with val:=a.eval z}).toArray mm.2)) (fun b hb=>fY w L.b _ b hb) ⟨_,np (f:=fun e=>(e.1,v,e.2.2)) (g:=fun e=>{e with val:=a.eval z}) (fun q k' v' hk' _=>⟨_,_,_,rfl,rfl,hk',hv⟩) i k1,mZ w _ k2⟩⟩;have hf':vs.toArray.findIdx? (fun e=>(e.born:Int) == (n:Int))=some i:=by simpa using hf
   simp only[execOp,ho,Instr.entryStore,Sem.run_bind,hx,hy,Result.andThen_ok,dX k2,asInt,asIntOf,Sem.run_pure,hf',jD k2,wa]
 . cases e
end
end Go.Proofs.YtjfkdglgecgjfaaGreat.R
