/- Part of the proof. -/
import Derived.Test.YtjfkdglgecgjfaaGreatZRH
import Derived.Shelf.Bytes.SlIndexWhole
namespace Go.Proofs.YtjfkdglgecgjfaaGreat.R
open Go.RowKit
def Rp(P:Program)(f:Option FuncId)(B:List AF)(q:HS×AV)(s:qW):Prop:=match B with
 |A::cs=>∃A',cl A q.2=some A'/\s=⟨q.1,A',cs⟩
 |[]=>f=some s.fr.fn/\s.h=q.1/\s.cs=[]/\s.fr.mode=.ret/\s.fr.ds=[]/\s.fr.kind=.normal/\
  ∃fn vs,P.funcs[s.fr.fn]?=some fn/\Bw P q.1 s.fr.K fn.results.toList=some vs/\DT s.fr.todo fn.results.toList=true/\q.2=Mr vs
def Cx.bf(c:Cx):Option FuncId:=(c.fn::c.cs.map (·.fn))[c.e]?
def Rg(P:Program)(f:Option FuncId)(B:List AF)(r:Rt)(s:qW):Prop:=match r with
 |.ret h v=>Rp P f B (h,v) s
 |.stop c h K td md=>s=c.st h K td md/\c.bf=f/\c.cs.drop c.e=B
def Good(P:Program)(W:World->Prop)(s:qW)(f:Option FuncId)(B:List AF)(l:List Rt):Prop:=∀w0,W w0->∀(cs0:List Frame) (m:Machine),Ir w0 cs0 s m->∃r∈l,∃s',Rg P f B r s'/\∃m',Steps P m m'/\Ir w0 cs0 s' m'
def XC(P:Program)(W:World->Prop)(s:qW)(f:Option FuncId)(B:List AF)(l:List (HS×AV)):Prop:=∀w0,W w0->∀(cs0:List Frame) (m:Machine),Ir w0 cs0 s m->∃q∈l,∃s',Rp P f B q s'/\∃m',Steps P m m'/\Ir w0 cs0 s' m'
def E0(s t:qW):Prop:=∀(w0:World) (cs0:List Frame) (m:Machine),Ir w0 cs0 s m->Ir w0 cs0 t m
def yK(P:Program)(W:World->Prop)(ih:sJ):Prop:=∀c h K td md l,ih c h K td md=some l->Good P W (c.st h K td md) c.bf (c.cs.drop c.e) l
def fns(s:qW):List FuncId:=s.fr.fn::s.cs.map (·.fn)
def Nc(S:qW):ia->Prop
 |.one s=>s.cs.drop 1=S.cs.drop 1/\(S.fr.kind≠ .deferred->s.cs=S.cs)/\fns s=fns S
 |.push s=>s.cs.drop 1=S.cs/\(fns s).drop 1=fns S
 |.pop s=>(∃x,S.cs=x::s.cs)/\(fns S).drop 1=fns s
 |.many l=>∀s∈l,s.cs=S.cs/\s.fr.fn=S.fr.fn
 |_=>True
section
variable {P:Program}{S S':qW}{r:ia}
theorem Nc.of(h:Nc S' r)(e1:S'.cs=S.cs)(e2:S'.fr.kind=S.fr.kind)(e3:S'.fr.fn=S.fr.fn):Nc S r:=by
 cases r<;>simp only[Nc,fns,e1,e2,e3]at h ⊢ <;>exact h
theorem km{x:Option ia}{why:String}(hx:∀y,x=some y->Nc S y):Nc S (lG why x):=by
 cases x with
 |none=>trivial
 |some y=>exact hx y rfl
theorem lX{A A':AF}{v:AV}(h:cl A v=some A'):A'.fn=A.fn:=by
 unfold cl at h;split at h
 . simp only[ab]at h;obtain⟨_,_,rfl⟩:=h;rfl
 . simp only[ab]at h;obtain⟨_,_,rfl⟩:=h;rfl
 . cases h;rfl
 . cases h
theorem J5{A:AF}{l:List (AV×Bool)}:(zS A l).fn=A.fn:=by unfold zS;split<;>rfl
theorem Ql{α β:Type}{f:α->Option β}:∀{l:List α} {ls:List β} {y:β},l.mapM f=some ls->y∈ls->∃x∈l,f x=some y:=by
 intro l
 induction l with
 |nil=>intro ls y e h;simp at e;subst e;cases h
 |cons a l ih=>
  intro ls y e h
  simp only[List.mapM_cons,Option.bind_eq_bind,aa,Option.pure_def,af]at e
  obtain⟨b,h1,vm,h2,rfl⟩:=e
  rcases aB.1 h with rfl|h
  . exact⟨a,aq ..,h1⟩
  . obtain⟨x,h3,h4⟩:=ih h2 h
    exact⟨x,au _ h3,h4⟩
theorem eL{fr:AF}{h:HS}(e:fr.fn=S.fr.fn):Nc S (.one ⟨h,fr,S.cs⟩):=⟨rfl,fun _=>rfl,by simp only[fns,e]⟩
theorem pD{f:AF->qW}{v:AV}(hf:∀fr,(f fr).cs=S.cs)(hg:∀fr,fr.fn=S.fr.fn->(f fr).fr.fn=S.fr.fn):Nc S (lG "finish" ((cl S.fr v).map fun fr=>.one (f fr))):=km fun y hy=>by
 simp only[ab]at hy;obtain⟨fr,h1,rfl⟩:=hy;exact⟨by rw[hf],fun _=>hf fr,by simp only[fns,hf,hg fr (lX h1)]⟩
theorem QM(r:AR):Nc S (jR P S r):=by
 cases r with
 |val v=>exact pD (fun _=>rfl) fun _ e=>e
 |new x mk=>exact pD (fun _=>rfl) fun _ e=>e
 |la v h=>exact pD (fun _=>rfl) fun _ e=>e
 |many l=>
  refine km fun y hy=>?_
  simp only[ab]at hy
  obtain⟨ls,h1,rfl⟩:=hy
  intro s hs
  obtain⟨x,_,h2⟩:=Ql h1 hs
  simp only[ab]at h2
  obtain⟨fr,h3,rfl⟩:=h2
  exact⟨rfl,lX h3⟩
 |enter f args=>
  unfold jR
  simp only
  split
  . exact pD (fun _=>rfl) fun _ e=>e
  . refine km fun y hy=>?_
    simp only[ab]at hy
    obtain⟨fr,_,rfl⟩:=hy
    exact⟨rfl,rfl⟩
 |round o args=>
  refine km fun y hy=>?_
  simp only[aa]at hy
  obtain⟨x,_,hy⟩:=hy
  split at hy
  . simp only[ab]at hy
    obtain⟨fr,_,rfl⟩:=hy
    exact⟨rfl,rfl⟩
  . cases hy
 |defer d=>
  unfold jR
  split
  . rename_i heq;cases heq
  all_goals first|trivial|skip
  all_goals try(rename_i heq;cases heq)
  split
  . exact pD (fun _=>rfl) fun _ e=>e
  . trivial
 |panic v=>exact eL J5
 |recover=>
  unfold jR
  simp only
  split
  . rename_i hk hc
    split
    . refine km fun y hy=>?_
      simp only[ab]at hy
      obtain⟨fr,h1,rfl⟩:=hy
      exact⟨by rw[hc];rfl,fun hn=>absurd hk hn,by simp only[fns,hc,lX h1,aF]⟩
    . exact pD (fun _=>rfl) fun _ e=>e
  . exact pD (fun _=>rfl) fun _ e=>e
  . trivial
theorem D5{ops:Array Oper}{i:Nat}{mx:Oper->Tr AV}:Nc S (rU P S ops i mx):=by
 unfold rU;split
 . trivial
 . split
   . trivial
   . exact pD (fun _=>rfl) fun _ e=>e
   . split
     . exact QM _
     . trivial
theorem uV{j:Option Code}:Nc S (mX S j):=by
 unfold mX;split
 . split<;>first|exact eL rfl|trivial
 . refine km fun y hy=>?_
   simp only[aa]at hy;obtain⟨x,_,hy⟩:=hy;split at hy
   . rename_i hc _;simp only[ab]at hy;obtain⟨A,h1,rfl⟩:=hy;exact⟨⟨_,hc⟩,by simp only[fns,hc,lX h1,aF,List.drop_succ_cons,List.drop_zero]⟩
   . cases hy
theorem Ug{c:Code}{k:List AI}:Nc S (mA P S c k):=by
 cases c with
 |skip=>exact eL rfl
 |label l=>exact eL rfl
 |ret=>show Nc S (mX S (some .ret));exact uV
 |seq a b=>exact eL rfl
 |cond x a b=>unfold mA;simp only;split<;>first|exact eL rfl|trivial
 |block id b=>exact eL rfl
 |loop b=>exact eL rfl
 |scope b=>exact eL rfl
 |exit id=>unfold mA;simp only;split<;>first|exact eL rfl|exact uV
 |goto l=>unfold mA;simp only;split<;>first|exact eL rfl|exact uV
 |region id ops dr=>cases dr with
  |false=>exact eL rfl
  |true=>unfold mA;simp only;split<;>first|exact eL rfl|trivial
 |rangeFunc f ps fC body=>
  refine km fun y hy=>?_
  simp only[aa]at hy
  obtain⟨q,_,v,_,hy⟩:=hy
  split at hy
  . split at hy
    . simp only[ab]at hy
      obtain⟨A,_,rfl⟩:=hy
      exact⟨rfl,rfl⟩
    . cases hy
  . cases hy
 |refuse w=>trivial
theorem Ki:Nc S (gG P S):=by
 unfold gG;split
 . unfold po;split
   . exact uV
   . exact Ug
   . exact eL rfl
   . exact eL rfl
   . exact eL rfl
   . exact eL rfl
   . exact D5
   . unfold qy;split
     . trivial
     . split
       . trivial
       . split
         . exact eL rfl
         . exact(D5 (P:=P)).of rfl rfl rfl
   . trivial
   . refine km fun y hy=>?_
     simp only[aa]at hy;obtain⟨x,_,hy⟩:=hy;split at hy
     . split at hy
       . cases hy
       . cases hy;exact eL rfl
     . cases hy
   . refine km fun y hy=>?_
     simp only[aa]at hy;obtain⟨o,_,x,_,hy⟩:=hy;split at hy
     . cases hy;exact eL rfl
     . cases hy
 . unfold u9;split
   . refine km fun y hy=>?_
     simp only[aa]at hy;obtain⟨x,_,hy⟩:=hy;split at hy
     . cases hy;exact eL rfl
     . cases hy
   . split
     . split
       . refine km fun y hy=>?_
         simp only[ab]at hy;obtain⟨A,_,rfl⟩:=hy;exact⟨rfl,rfl⟩
       . trivial
     . trivial
   . split
     . trivial
     . split
       . rename_i hc _;exact⟨⟨_,hc⟩,by simp only[fns,hc,J5,aF,List.drop_succ_cons,List.drop_zero]⟩
       . trivial
     . split
       . trivial
       . rename_i hc;refine km fun y hy=>?_
         simp only[aa]at hy;obtain⟨fn,_,vs,_,hy⟩:=hy;split at hy
         . simp only[ab]at hy;obtain⟨A,h1,rfl⟩:=hy;exact⟨⟨_,hc⟩,by simp only[fns,hc,lX h1,aF,List.drop_succ_cons,List.drop_zero]⟩
         . cases hy;exact⟨⟨_,hc⟩,by simp only[fns,hc,aF,List.drop_succ_cons,List.drop_zero]⟩
         . cases hy
end
section
variable {P:Program}{W:World->Prop}{ih:sJ}{c:Cx}{h:HS}{K:Tr AV}{td:List AI}{md:AM}{l:List Rt}{lv:List (HS×AV)}{s s':qW}{B:List AF}{f:Option FuncId}
theorem cz{α β:Type}{x:Option α}{f:α->Option β}{r:β}(e:mR x f=some r):∃a,x=some a/\f a=some r:=by
 cases x with
 |none=>cases e
 |some a=>exact⟨a,rfl,e⟩
theorem nH{α β γ:Type}{f:α->β->Option γ}{x:Option α}{y:Option β}{r:γ}(e:yN f x y=some r):∃a b,x=some a/\y=some b/\f a b=some r:=by
 cases x with
 |none=>cases e
 |some a=>
  cases y with
  |none=>cases e
  |some b=>exact⟨a,b,rfl,rfl,e⟩
theorem ew{a b:Bool}(h:kr a b=true):a=true/\b=true:=by cases a<;>cases b<;>first|exact⟨rfl,rfl⟩|cases h
theorem cX(hX:∀w0,W w0->gL P w0)(e:gG P s=.one s'\/gG P s=.push s'\/gG P s=.pop s')(g:Good P W s' f B l):Good P W s f B l:=by
 intro w0 hw cs0 m hS;have hst:=Ef (P:=P) (hX w0 hw) hS;have:∃m',Steps P m m'/\Ir w0 cs0 s' m':=by
  rcases e with e|e|e<;>(rw[e]at hst;exact hst)
 obtain⟨m',t1,t2⟩:=this;obtain⟨q,h1,s2,h0,m2,h2,h3⟩:=g w0 hw cs0 m' t2;exact⟨q,h1,s2,h0,m2,t1.trans h2,h3⟩
theorem qF{r:Rt}(hr:Rg P f B r s)(hq:r∈l):Good P W s f B l:=fun _ _ _ m hS=>⟨r,hq,s,hr,m,Steps.refl P _,hS⟩
theorem C9{L:List Rt}{B':List AF}{f':Option FuncId}(a:XC P W s f' B' lv)(b:∀q∈lv,∀s',Rp P f' B' q s'->Good P W s' f B L):Good P W s f B L:=by
 intro w0 hw cs0 m hS;obtain⟨q,h1,s1,h0,m1,h2,h3⟩:=a w0 hw cs0 m hS;obtain⟨q2,h4,s2,h5,m2,h6,h7⟩:=b q h1 s1 h0 w0 hw cs0 m1 h3;exact⟨q2,h4,s2,h5,m2,h2.trans h6,h7⟩
theorem Jo(a:E0 s s')(b:Good P W s' f B l):Good P W s f B l:=fun w0 hw cs0 m hS=>b w0 hw cs0 m (a w0 cs0 m hS)
theorem OE:∀{l:List Rt} {lv:List (HS×AV)},W0 l=some lv->∀r∈l,∃q∈lv,r=.ret q.1 q.2
 |[],_,_,_,hr=>by cases hr
 |.ret h v::l,lv,e,r,hr=>by
  obtain⟨l1,h1,h2⟩:=cz (show mR (W0 l) (fun l=>some ((h,v)::l))=some lv from e);cases h2;rcases aB.1 hr with rfl|hr
  . exact⟨(h,v),aq ..,rfl⟩
  . obtain⟨q,h3,h4⟩:=OE h1 r hr;exact⟨q,au _ h3,h4⟩
 |.stop .. ::l,_,e,_,_=>by cases e
theorem Jp(g:Good P W s f B l)(e:∀r∈l,∃q∈lv,r=.ret q.1 q.2):XC P W s f B lv:=by
 intro w0 hw cs0 m hS;obtain⟨r,h1,s1,h0,m1,h2,h3⟩:=g w0 hw cs0 m hS;obtain⟨q,h4,rfl⟩:=e r h1;exact⟨q,h4,s1,h0,m1,h2,h3⟩
theorem sN{α:Type}{g:α->cW}:∀{ss:List α} {L:List (HS×AV)},PE g ss=some L->∀s∈ss,∃l,g s=some l/\∀r∈l,∃q∈L,r=.ret q.1 q.2
 |[],_,_,_,hs=>by cases hs
 |a::ss,L,e,s,hs=>by
  obtain⟨l1,l2,h1,h2,h3⟩:=nH (show yN (fun a b=>some (a++b)) (mR (g a) W0) (PE g ss)=some L from e);cases h3;rcases aB.1 hs with rfl|hs
  . obtain⟨l,h4,h5⟩:=cz h1;exact⟨l,h4,fun r hr=>let⟨q,h6,h7⟩:=OE h5 r hr;⟨q,aU _ h6,h7⟩⟩
  . obtain⟨l,h4,h5⟩:=sN h2 s hs;exact⟨l,h4,fun r hr=>let⟨q,h6,h7⟩:=h5 r hr;⟨q,ba _ h6,h7⟩⟩
theorem IW:∀{l:List (HS×AV)} {q:HS×AV},q∈l->Rt.ret q.1 q.2∈aal l
 |[],_,h=>by cases h
 |a::l,q,h=>by
  rcases aB.1 h with rfl|h
  . exact aq ..
  . exact au _ (IW h)
theorem YE{u w:Value}(h:eqU u w=true):Sh u w=true:=by
 have hk:∀{k l:IntKind},Nat.beq (pZ k) (pZ l)=true->k=l:=fun{k l} e=>by cases k<;>cases l<;>first|rfl|cases e
 cases u with
 |int k i=>
  cases w with
  |int l j=>
   obtain⟨h1,h2⟩:=ew (show kr (Nat.beq (pZ k) (pZ l)) (eqI i j)=true from h)
   cases hk h1
   have hij:i=j:=by
    cases i<;>cases j<;>first|cases h2|skip;have h2:Nat.beq _ _=true:=h2;rw[ah h2]
   simp[Sh,hij]
  |_=>cases h
 |bool a=>
  cases w with
  |bool b=>
   have h:Z7 a b=true:=h
   cases a<;>cases b<;>first|rfl|cases h
  |_=>cases h
 |pointer a=>
  cases w with
  |pointer b=>
   obtain⟨h1,h2⟩:=ew (show kr (we a) (we b)=true from h)
   cases a with
   |some _=>cases h1
   |none=>cases b with
    |some _=>cases h2
    |none=>simp[Sh]
  |_=>obtain⟨_,h2⟩:=ew (show kr (we a) false=true from h);cases h2
 |slice a n c=>
  cases w with
  |slice b m d=>
   obtain⟨h1,h2⟩:=ew (show kr (we a) (kr (we b) (kr (Nat.beq n m) (Nat.beq c d)))=true from h)
   obtain⟨h2,h3⟩:=ew h2
   obtain⟨h3,h4⟩:=ew h3
   cases a with
   |some _=>cases h1
   |none=>cases b with
    |some _=>cases h2
    |none=>simp only[Sh,h3,h4,Bool.and_self]
  |_=>obtain⟨_,h2⟩:=ew (show kr (we a) false=true from h);cases h2
 |map a=>
  cases w with
  |map b=>
   obtain⟨h1,h2⟩:=ew (show kr (we a) (we b)=true from h)
   cases a with
   |some _=>cases h1
   |none=>cases b with
    |some _=>cases h2
    |none=>rfl
  |_=>obtain⟨_,h2⟩:=ew (show kr (we a) false=true from h);cases h2
 |nilFunc=>cases w<;>first|rfl|cases h
 |nilIface=>cases w<;>first|rfl|cases h
 |_=>cases h
mutual
theorem Lv:∀{x y:AV},Jc x y=true->ln x y=true
 |.p u,y,h=>by
  cases y with
  |p w=>simp only[ln];exact YE (show eqU u w=true from h)
  |_=>cases h
 |.ptr o f,y,h=>by
  cases y with
  |ptr p g=>
   obtain⟨h1,h2⟩:=ew (show kr (Nat.beq o p) (Nat.beq f g)=true from h)
   simp only[ln,h1,h2,Bool.and_self]
  |_=>cases h
 |.sl o f n c z,y,h=>by
  cases y with
  |sl p g m d w=>
   obtain⟨h1,h2⟩:=ew (show kr (Nat.beq o p) (kr (Nat.beq f g) (kr (Nat.beq n m) (kr (eqN c d) (Nat.beq z w))))=true from h)
   obtain⟨h2,h3⟩:=ew h2
   obtain⟨h3,h4⟩:=ew h3
   obtain⟨h4,h5⟩:=ew h4
   simp only[ln,h1,h2,h3,h4,h5,Bool.and_self]
  |_=>cases h
 |.agg l,y,h=>by
  cases y with
  |agg m=>simp only[ln];exact GK h
  |_=>cases h
 |.dD l,y,h=>by
  cases y with
  |dD m=>simp only[ln];exact GK (show Jc (.agg l) (.agg m)=true from h)
  |_=>cases h
 |.mp o,y,h=>by
  cases y with
  |mp p=>simp only[ln];exact h
  |_=>cases h
 |.fn _ _ _,_,h=>by cases h
 |.yl _,_,h=>by cases h
 |.rE _ _,_,h=>by cases h
theorem GK:∀{l m:List AV},Jc (.agg l) (.agg m)=true->zk l m=true
 |[],[],_=>by simp only[zk]
 |[],_::_,h=>by cases h
 |_::_,[],h=>by cases h
 |x::l,y::m,h=>by
  obtain⟨h1,h2⟩:=ew (show kr (Jc x y) (Jc (.agg l) (.agg m))=true from h);simp only[zk,Lv h1,GK h2,Bool.and_self]
end
theorem GL{x y:AV}(h:Jc x y=true):x=y:=rp (Lv h)
theorem JN:∀{l m:List AV},Oq l m=true->l=m
 |[],[],_=>rfl
 |[],_::_,h=>by cases h
 |_::_,[],h=>by cases h
 |x::l,y::m,h=>by
  obtain⟨h1,h2⟩:=ew (show kr (Jc x y) (Oq l m)=true from h);rw[GL h1,JN h2]
theorem Jb:∀{l m:List (AV×AV×Nat)},NN l m=true->l=m
 |[],[],_=>rfl
 |[],_::_,h=>by cases h
 |_::_,[],h=>by cases h
 |(k,v,n)::l,(k',v',n')::m,h=>by
  obtain⟨h1,h2⟩:=ew (show kr (kr (Jc k k') (kr (Jc v v') (Nat.beq n n'))) (NN l m)=true from h);obtain⟨h3,h4⟩:=ew h1;obtain⟨h5,h6⟩:=ew h4;rw[GL h3,GL h5,ah h6,Jb h2]
theorem Yz{x y:AO}(h:eqO x y=true):x=y:=by
 cases x with
 |cells l T=>
  cases y with
  |cells m U=>
   obtain⟨h1,h2⟩:=ew (show kr (Oq l m) (Nat.beq T U)=true from h)
   rw[JN h1,ah h2]
  |_=>cases h
 |map es c=>
  cases y with
  |map fs d=>
   obtain⟨h1,h2⟩:=ew (show kr (NN es fs) (Nat.beq c d)=true from h)
   rw[Jb h1,ah h2]
  |_=>cases h
 |_=>cases h
theorem WV{x y:Option AO}(h:ZB x y=true):x=y:=by
 cases x with
 |none=>cases h
 |some a=>
  cases y with
  |none=>cases h
  |some b=>rw[Yz (show eqO a b=true from h)]
theorem DX(H:Tr AO)(o:Nat):∀ids:List Nat,(Bz ids H).get o=H.get o\/(Bz ids H).get o=none
 |[]=>.inr (get_nil o)
 |i::ids=>by
  show((Bz ids H).put i (H.get i)).get o=_\/((Bz ids H).put i (H.get i)).get o=_;by_cases hi:o=i
  . subst hi;rw[pj];exact .inl rfl
  . rw[dK _ _ hi];exact DX H o ids
theorem FV(H:Tr AO)(o:Nat):∀ids:List Nat,o ∉ ids->(Bz ids H).get o=none
 |[],_=>get_nil o
 |i::ids,hn=>by
  show((Bz ids H).put i (H.get i)).get o=none;rw[dK _ _ fun e=>hn (by rw[e];exact aq ..)];exact FV H o ids fun hm=>hn (au _ hm)
theorem Jr{H G:Tr AO}:∀{ids:List Nat},N5 ids H G=true->∀o∈ids,H.get o=G.get o
 |[],_,_,ho=>by cases ho
 |i::ids,h,o,ho=>by
  obtain⟨h1,h2⟩:=ew (show kr (ZB (H.get i) (G.get i)) (N5 ids H G)=true from h);rcases aB.1 ho with rfl|ho
  . exact WV h1
  . exact Jr h2 o ho
theorem Oo(a b:Nat):a<=LW a b/\b<=LW a b:=by
 unfold LW
 cases h:Nat.ble a b with
 |true=>exact⟨aj h,Nat.le_refl _⟩
 |false=>
  refine⟨Nat.le_refl _,?_⟩
  rcases Nat.le_total a b with k|k
  . rw[Nat.ble_eq_true_of_le k]at h;cases h
  . exact k
theorem JJ:∀{l:List (HS×AV)} {q:HS×AV},q∈l->q.1.nx<=JH l
 |[],_,h=>by cases h
 |a::l,q,h=>by
  have:=Oo a.1.nx (JH l);rcases aB.1 h with rfl|h
  . exact this.1
  . exact Nat.le_trans (JJ h) this.2
theorem IK{ids:List Nat}{q:HS×AV}:∀{l:List (HS×AV)},allEq ids q l=true->∀p∈l,p.2=q.2/\∀o∈ids,p.1.H.get o=q.1.H.get o
 |[],_,_,hp=>by cases hp
 |a::l,h,p,hp=>by
  obtain⟨h1,h2⟩:=ew (show kr (Jc a.2 q.2) (kr (N5 ids a.1.H q.1.H) (allEq ids q l))=true from h);obtain⟨h2,h3⟩:=ew h2;rcases aB.1 hp with rfl|hp
  . exact⟨GL h1,Jr h2⟩
  . exact IK h3 p hp
theorem I2{h h':HS}{A:AF}{cs:List AF}(hH:∀o,h'.H.get o=h.H.get o\/h'.H.get o=none)(nx:h.nx<=h'.nx):E0 ⟨h,A,cs⟩ ⟨h',A,cs⟩:=by
 intro w0 cs0 m ⟨ρ,fr,cs,w,u,us,hm,H,hf,hcs,hF⟩;refine⟨ρ,fr,cs,w,u,us,hm,?_,hf,hcs,⟨hF.1,fun q hq=>⟨(hF.2 q hq).1,Nat.lt_of_lt_of_le (hF.2 q hq).2 nx⟩⟩⟩;exact H.less hH nx
theorem Ju{q:HS×AV}(hq:q∈lv)(hr:Rp P f B q s):∃q'∈Jt B lv,∃s',Rp P f B q' s'/\E0 s s':=by
 cases B with
 |nil=>exact⟨q,hq,s,hr,fun _ _ _ h=>h⟩
 |cons A cs=>
  have self:∃q'∈lv,∃s',Rp P f (A::cs) q' s'/\E0 s s':=⟨q,hq,s,hr,fun _ _ _ h=>h⟩
  show ∃q'∈N8 (G5 cs) lv,∃s',Rp P f (A::cs) q' s'/\E0 s s'
  cases lv with
  |nil=>cases hq
  |cons q0 l=>
   have hl:N8 (G5 cs) (q0::l)=q0::l\/N8 (G5 cs) (q0::l)=Zz (q0::l) q0 (SI q0.1.nx (G5 cs)):=by
    cases l with
    |nil=>exact .inl rfl
    |cons _ _=>exact .inr rfl
   rcases hl with hl|hl
   . rw[hl];exact self
   rw[hl]
   generalize SI q0.1.nx (G5 cs)=J
   induction J with
   |nil=>exact self
   |cons ids J ih=>
    show ∃q'∈Bool.rec (motive:=fun _=>List (HS×AV)) (Zz (q0::l) q0 J) [(⟨Bz ids q0.1.H,JH (q0::l)⟩,q0.2)] (allEq ids q0 (q0::l)),∃s',Rp P f (A::cs) q' s'/\E0 s s'
    cases he:allEq ids q0 (q0::l)with
    |false=>exact ih
    |true=>
     obtain⟨h1,h2⟩:=IK he q hq
     obtain⟨A',h3,rfl⟩:=hr
     rw[h1]at h3
     refine⟨_,aq ..,⟨⟨Bz ids q0.1.H,JH (q0::l)⟩,A',cs⟩,⟨A',h3,rfl⟩,I2 (fun o=>?_) (JJ hq)⟩
     by_cases ho:o∈ids
     . rcases DX q0.1.H o ids with k|k
       . exact .inl (k.trans (h2 o ho).symm)
       . exact .inr k
     . exact .inr (FV _ o ids ho)
theorem xz(n:Nat)(g:Nat->cW):C7 n g=g n:=by cases n<;>rfl
theorem N1{α:Type}(n:List α)(g:List α->cW):Sz n g=g n:=by cases n<;>rfl
theorem Wg(n:Option Nat)(g:Option Nat->cW):YP n g=g n:=by cases n<;>rfl
theorem Wh(n:Tr AV)(g:Tr AV->cW):YQ n g=g n:=by cases n<;>rfl
theorem SB(n:Tr AO)(g:Tr AO->cW):SA n g=g n:=by cases n<;>rfl
theorem We(n:CallKind)(g:CallKind->cW):YO n g=g n:=by cases n<;>rfl
theorem Wc(n:HS)(g:HS->cW):YN n g=g n:=by
 obtain⟨H,nx⟩:=n;show C7 nx (fun nx=>SA H fun H=>g ⟨H,nx⟩)=g ⟨H,nx⟩;rw[xz,SB]
theorem RH(ih:sJ)(e:Nat)(s:qW):sP ih e s=ih ⟨e,s.cs,s.fr.fn,s.fr.n,s.fr.ds,s.fr.kind,s.fr.rd⟩ s.h s.fr.K s.fr.todo s.fr.mode:=by
 obtain⟨h,⟨fn,n,K,td,ds,md,kind,rd⟩,cs⟩:=s;show Sz cs (fun cs=>YN h fun h=>C7 fn fun fn=>C7 n fun n=>Sz ds fun ds=>YO kind fun kind=>YP rd fun rd=>YQ K fun K=>ih ⟨e,cs,fn,n,ds,kind,rd⟩ h K td md)=_;rw[N1,Wc,xz,xz,N1,We,Wg,Wh]
theorem wS(H:yK P W ih){e:Nat}(g:sP ih e s=some l):Good P W s ((fns s)[e]?) (s.cs.drop e) l:=by
 rw[RH]at g;exact H _ _ _ _ _ _ g
theorem D4{d:Option Nat}{v:AV}(g:qN ih c h K td d v=some l):∃K',mf K c.n d v=some K'/\ih c h K' td .run=some l:=by
 cases d with
 |none=>exact⟨K,rfl,g⟩
 |some d=>
  have g:Bool.rec (motive:=fun _=>cW) none (ih c h (EX (A1 d) (some v) K) td .run) (Nat.ble (d+1) c.n)=some l:=g
  cases hb:Nat.ble (d+1) c.n with
  |false=>rw[hb]at g;cases g
  |true=>
   rw[hb]at g
   exact⟨K.put d (some v),by simp only[mf,hb],g⟩
theorem MD(H:yK P W ih){d:Option Nat}{v:AV}(g:qN ih c h K td d v=some l):∃K',mf K c.n d v=some K'/\Good P W (c.st h K' td .run) c.bf (c.cs.drop c.e) l:=by
 obtain⟨K',h1,h2⟩:=D4 g;exact⟨K',h1,H _ _ _ _ _ _ h2⟩
theorem GW(ops:Array Oper)(c:Nat):∀l:List (Nat×Fl),EL ops c l=l.filter fun q=>!D.pO ops q.1 c
 |[]=>rfl
 |q::l=>by
  show Bool.rec (motive:=fun _=>List (Nat×Fl)) (q::EL ops c l) (EL ops c l) (D.pO ops q.1 c)=_;rw[List.filter_cons,GW ops c l];cases D.pO ops q.1 c<;>rfl
theorem Jg{A:AF}{e:Nat}{cs:List AF}{v:AV}{z:cW}(g:CY A ih e cs h v z=some l):
 z=some l\/∃A',cl A v=some A'/\A'.mode=.run/\ih ⟨e,cs,A'.fn,A'.n,A'.ds,A'.kind,A'.rd⟩ h A'.K A'.todo .run=some l:=by
 obtain⟨fn,n,K2,td2,ds,md2,kind,rd⟩:=A
 cases md2<;>first|exact .inl g|skip
 cases td2 with
 |nil=>exact .inl g
 |cons x k2=>
  cases x<;>first|exact .inl g|skip
  . rename_i ops l2
    cases l2 with
    |nil=>exact .inl g
    |cons i l2=>
     obtain⟨K',e1,e2⟩:=D4 (show qN ih ⟨e,cs,fn,n,ds,kind,rd⟩ h K2 (.ops ops l2::k2) (I8 ops i) v=some l from g)
     have e1:mf K2 n (n8 ops i) v=some K':=e1
     exact .inr ⟨⟨fn,n,K',.ops ops l2::k2,ds,.run,kind,rd⟩,by simp only[cl,e1,ak],rfl,e2⟩
  . rename_i ops K0 l2 pe
    cases l2 with
    |nil=>exact .inl g
    |cons i l2=>
     obtain⟨K',e1,e2⟩:=D4 (show qN ih ⟨e,cs,fn,n,ds,kind,rd⟩ h K2 (.qA ops K0 l2 (EL ops i pe)::k2) (I8 ops i) v=some l from g)
     have e1:mf K2 n (n8 ops i) v=some K':=e1
     exact .inr ⟨⟨fn,n,K',.qA ops K0 l2 (EL ops i pe)::k2,ds,.run,kind,rd⟩,by simp only[cl,e1,ak,GW],rfl,e2⟩
  . rename_i o
    exact .inr ⟨⟨fn,n,K2,.er o::k2,ds,.run,kind,rd⟩,rfl,rfl,g⟩
theorem LG(H:yK P W ih){A:AF}{e:Nat}{cs:List AF}{v:AV}{z:cW}(g:CY A ih e cs h v z=some l):
 z=some l\/∃A',cl A v=some A'/\Good P W ⟨h,A',cs⟩ ((A.fn::cs.map (·.fn))[e]?) (cs.drop e) l:=by
 rcases Jg g with g|⟨A',h1,h2,h3⟩
 . exact .inl g
 . have:=H _ _ _ _ _ _ h3
   have e:=lX h1
   obtain⟨fn,n,K2,td2,ds,md2,kind,rd⟩:=A'
   have h2:md2=.run:=h2
   have e:fn=A.fn:=e
   subst h2
   rw[<- e]
   exact .inr ⟨_,h1,this⟩
theorem NI(H:yK P W ih):∀(e:Nat) (fn:FuncId) (cs:List AF) (ss:List (HS×AV)) (L:List Rt),NH ih e cs ss=some L->∀q∈ss,∀s,Rp P (some fn) cs q s->Good P W s ((fn::cs.map (·.fn))[e]?) (cs.drop e) L
 |0,fn,cs,ss,L,g,q,hq,s,hr=>by cases g;exact qF (r:=.ret q.1 q.2) hr (IW hq)
 |e+1,fn,[],ss,L,g,q,hq,s,hr=>by cases g
 |e+1,fn,A::cs,ss,L,g,q,hq,s,hr=>by
  have g:Option.rec (motive:=fun _=>cW) (mR (PE (fun q=>CY A ih 0 cs q.1 q.2 none) ss) fun l=>NH ih e cs (Jt cs l)) (fun q=>CY A ih e cs q.1 q.2 none) (one? ss)=some L:=g;obtain⟨A',hA,rfl⟩:=hr
  cases h1:one? ss with
  |none=>
   rw[h1]at g
   obtain⟨ls,e1,e2⟩:=cz g
   obtain⟨l1,h2,h3⟩:=sN e1 q hq
   rcases LG H h2 with h2|⟨A2,h4,h5⟩
   . cases h2
   . rw[hA]at h4;cases h4
     refine C9 (Jp h5 h3) fun q2 hq2 s2 hr2=>?_
     obtain⟨t,h6,s3,h7,h8⟩:=Ju hq2 hr2
     exact Jo h8 (NI H e A.fn cs _ _ e2 t h6 s3 h7)
  |some q1=>
   rw[h1]at g
   unfold one? at h1
   split at h1
   . cases h1
     rcases aB.1 hq with rfl|hq
     . rcases LG H g with g|⟨A2,h4,h5⟩
       . cases g
       . rw[hA]at h4;cases h4;exact h5
     . cases hq
   . cases h1
theorem VS{a b:List AF}(h:a.drop 1=b.drop 1)(e:Nat):a.drop (e+1)=b.drop (e+1):=by
 rw[Nat.add_comm,<- List.drop_drop,<- List.drop_drop,h]
theorem Tg{k:CallKind}(h:Zp k=true):k=.normal:=by cases k<;>first|rfl|cases h
theorem ko(hX:∀w0,W w0->gL P w0)(H:yK P W ih)(g:dJ P ih c h K td md=some l):Good P W (c.st h K td md) c.bf (c.cs.drop c.e) l:=by
 unfold dJ at g;have hsh:=Ki (P:=P) (S:=c.st h K td md);have hst:Cx.rec (motive:=fun _=>qW) (fun _ cs fn n ds kind rd=>⟨h,⟨fn,n,K,td,ds,md,kind,rd⟩,cs⟩) c=c.st h K td md:=by cases c;rfl
 rw[hst]at g;cases hr:gG P (c.st h K td md)with
 |one s=>
  rw[hr]at g hsh
  refine cX hX (.inl hr) ?_
  have hf:fns s=c.fn::c.cs.map (·.fn):=hsh.2.2
  obtain⟨ee,cs,fn,n,ds,kind,rd⟩:=c
  cases ee with
  |zero=>
   have g:Bool.rec (motive:=fun _=>cW) none (sP ih 0 s) (Zp kind)=some l:=g
   cases hk:Zp kind with
   |false=>rw[hk]at g;cases g
   |true=>
    rw[hk]at g
    have:=wS H g
    have hc:s.cs=cs:=hsh.2.1 (by show kind≠ .deferred;rw[Tg hk];intro h;cases h)
    rw[hc,hf]at this
    exact this
  |succ e=>
   have:=wS H (show sP ih (e+1) s=some l from g)
   have hd:s.cs.drop (e+1)=cs.drop (e+1):=VS hsh.1 e
   rw[hd,hf]at this
   exact this
 |push s=>
  rw[hr]at g hsh
  refine cX hX (.inr (.inl hr)) ?_
  have:=wS H g
  have hd:s.cs.drop (c.e+1)=c.cs.drop c.e:=by
   have h1:s.cs.drop 1=c.cs:=hsh.1;rw[Nat.add_comm,<- List.drop_drop,h1]
  have hf:(fns s)[c.e+1]?=c.bf:=by
   have h1:(fns s).drop 1=c.fn::c.cs.map (·.fn):=hsh.2;unfold Cx.bf;rw[<- h1,List.getElem?_drop,Nat.add_comm]
  rw[hd,hf]at this
  exact this
 |pop s=>
  rw[hr]at g hsh
  refine cX hX (.inr (.inr hr)) ?_
  obtain⟨ee,cs,fn,n,ds,kind,rd⟩:=c
  cases ee with
  |zero=>cases g
  |succ e=>
   have:=wS H (show sP ih e s=some l from g)
   obtain⟨⟨x,hx⟩,hf⟩:=hsh
   have hx:cs=x::s.cs:=hx
   have hf:cs.map (·.fn)=fns s:=hf
   rw[<- hf]at this
   subst hx
   exact this
 |many ss=>
  rw[hr]at g hsh
  have g:Bool.rec (motive:=fun _=>cW) (mR (PE (sP ih 0) ss) fun l=>NH ih c.e c.cs (Jt c.cs l)) (some [.stop c h K td md]) (SJ h.nx (G5 c.cs))=some l:=g
  cases hs:SJ h.nx (G5 c.cs)with
  |true=>
   rw[hs]at g
   cases g
   exact qF (r:=.stop c h K td md) ⟨rfl,rfl,rfl⟩ (aq ..)
  |false=>
  rw[hs]at g
  obtain⟨ls,e1,e2⟩:=cz g
  intro w0 hw cs0 m hS
  have hst:=Ef (P:=P) (hX w0 hw) hS
  rw[hr]at hst
  obtain⟨s1,hs1,m',t1,t2⟩:=hst
  obtain⟨l1,h2,h3⟩:=sN e1 s1 hs1
  have hc:s1.cs=c.cs:=(hsh s1 hs1).1
  have hf:s1.fr.fn=c.fn:=(hsh s1 hs1).2
  have g1:Good P W s1 c.bf (c.cs.drop c.e) l:=C9 (Jp (wS H h2) h3) fun q hq s2 hr2=>by
   have hr2:Rp P (some s1.fr.fn) s1.cs q s2:=hr2;rw[hc,hf]at hr2;obtain⟨t,h4,s3,h5,h6⟩:=Ju hq hr2;exact Jo h6 (NI H _ c.fn _ _ _ e2 t h4 s3 h5)
  obtain⟨q,h4,s2,h5,m2,h6,h7⟩:=g1 w0 hw cs0 m' t2
  exact⟨q,h4,s2,h5,m2,t1.trans h6,h7⟩
 |fin=>rw[hr]at g;cases g
 |bad w=>rw[hr]at g;cases g
theorem jT(x:Operand)(K:Tr AV):uA x K=eB K x:=by cases x<;>rfl
theorem uD(k:IntKind)(n:Nat):xy k n=some (.p (.int k (.ofNat n))):=by cases n<;>rfl
theorem GZ(o f:Nat):Qb o f=some (.ptr o f):=by cases f<;>rfl
theorem wT(b:Bool):Cn b=some (.p (.bool b)):=by cases b<;>rfl
theorem Nu(b:Bool):PK b=some (.p (.bool !b)):=by cases b<;>rfl
theorem rN{k:IntKind}{n:Nat}{v:AV}(e:qL k n=some v):v=.p (.int k (k.wrap (n:Int))):=by
 have un:∀(k:IntKind) (m:Nat),k.signed=false->(2:Int) ^ k.bits=(m:Int)->mkU k m n=some v->v=.p (.int k (k.wrap (n:Int))):=fun k m h1 h2 e=>by
  unfold mkU at e;rw[uD]at e;cases e;simp only[IntKind.wrap,h1,Bool.false_and,h2];rfl
 have sg:∀(k:IntKind) (m:Nat),(2:Int) ^ (k.bits-1)=(m:Int)->(2:Int) ^ k.bits=2*(m:Int)->mkS k m n=some v->v=.p (.int k (k.wrap (n:Int))):=fun k m h1 h2 e=>by
  unfold mkS at e
  cases hb:Nat.ble (n+1) m with
  |false=>rw[show Nat.ble (Nat.succ n) m=false from hb]at e;cases e
  |true=>
   rw[show Nat.ble (Nat.succ n) m=true from hb]at e
   have hlt:=aj hb
   have e:xy k n=some v:=e
   rw[uD]at e
   cases e
   have hm:(n:Int) % (2*(m:Int))=(n:Int):=Int.emod_eq_of_lt (by omega) (by omega)
   simp only[IntKind.wrap,h1,h2,hm]
   have hd:decide ((n:Int)≥(m:Int))=false:=decide_eq_false (by omega)
   rw[hd,Bool.and_false]
   rfl
 cases k
 . exact sg .i8 128 rfl rfl e
 . exact sg .i16 32768 rfl rfl e
 . exact sg .i32 2147483648 rfl rfl e
 . exact sg .i64 9223372036854775808 rfl rfl e
 . exact un .u8 256 rfl rfl e
 . exact un .u16 65536 rfl rfl e
 . exact un .u32 4294967296 rfl rfl e
 . exact un .u64 18446744073709551616 rfl rfl e
theorem QV{u:Value}{q:IntKind->Int->Option AV}{v:AV}(e:abO u q=some v):∃k i,u=.int k i/\q k i=some v:=by
 cases u<;>first|exact⟨_,_,rfl,e⟩|cases e
theorem toI_some{x:AV}{q:IntKind->Int->Option AV}{v:AV}(e:toI x q=some v):∃k i,x=.p (.int k i)/\q k i=some v:=by
 cases x with
 |p u=>obtain⟨k,i,rfl,h⟩:=QV (u:=u) e;exact⟨k,i,rfl,h⟩
 |_=>cases e
theorem uL{i:Int}{q:Nat->Option AV}{v:AV}(e:L7 i q=some v):∃n:Nat,i=(n:Int)/\q n=some v:=by
 cases i with
 |ofNat n=>exact⟨n,rfl,e⟩
 |negSucc n=>cases e
theorem toB_some{x:AV}{q:Bool->Option AV}{v:AV}(e:toB x q=some v):∃b,x=.p (.bool b)/\q b=some v:=by
 cases x with
 |p u=>
  have e:abN u q=some v:=e
  cases u<;>first|exact⟨_,rfl,e⟩|cases e
 |_=>cases e
theorem toP_some{x:AV}{q:Nat->Nat->Option AV}{v:AV}(e:toP x q=some v):∃o f,x=.ptr o f/\q o f=some v:=by
 cases x<;>first|exact⟨_,_,rfl,e⟩|cases e
theorem toPH_some{x:AV}{q:Nat->Nat->Option HS}{v:HS}(e:toPH x q=some v):∃o f,x=.ptr o f/\q o f=some v:=by
 cases x<;>first|exact⟨_,_,rfl,e⟩|cases e
theorem toS_some{x:AV}{q:Nat->Nat->Nat->Option AV}{v:AV}(e:toS x q=some v):∃o f n c z,x=.sl o f n c z/\q o f n=some v:=by
 cases x<;>first|exact⟨_,_,_,_,_,rfl,e⟩|cases e
theorem toG_some{x:AV}{q:List AV->Option AV}{v:AV}(e:toG x q=some v):∃l,x=.agg l/\q l=some v:=by
 cases x<;>first|exact⟨_,rfl,e⟩|cases e
theorem toT_some{x:AV}{q:List AV->Option AV}{v:AV}(e:toT x q=some v):∃l,x=.dD l/\q l=some v:=by
 cases x<;>first|exact⟨_,rfl,e⟩|cases e
theorem Hh:∀(l:List AV) (n:Nat),WJ l n=l[n]?
 |[],_=>rfl
 |_::_,0=>rfl
 |_::l,n+1=>by rw[List.getElem?_cons_succ];exact Hh l n
theorem Dj{t:TypeId}{l:List AV}{f:Nat}{v:AV}(e:Z9 (fD P t) l f=some v):ya P t l f=some v:=by
 unfold ya
 cases hq:fD P t with
 |none=>rw[hq]at e;cases e
 |some q=>
  rw[hq]at e
  obtain⟨b,s⟩:=q
  cases b with
  |true=>
   obtain⟨l',h1,h2⟩:=cz (show mR (dG l f s) (fun l=>some (.agg l))=some v from e)
   cases h2
   simp only[ae,h1,ak]
  |false=>
   have e:WJ l f=some v:=e
   rw[Hh]at e
   simpa only[ae]using e
theorem XW{t:TypeId}{x v:AV}(e:ldV (fD P t) h x=some v):Dk P h t x=some v:=by
 obtain⟨o,f,rfl,e⟩:=toP_some e;obtain⟨y,h1,h2⟩:=cz e;have h1:h.H.get o=some y:=h1
 cases y with
 |cells l T=>
  have h2:Z9 (fD P t) l f=some v:=h2
  simp only[Dk,cellsOf,h1,ae]
  exact Dj h2
 |_=>cases h2
theorem Zy{v:AV}(e:onA v=true):jS v=[v]/\AL v=true:=by
 cases v with
 |p u=>
  have e:onV u=true:=e
  cases u<;>first|exact⟨rfl,rfl⟩|cases e
 |agg l=>cases e
 |dD l=>cases e
 |_=>exact⟨rfl,rfl⟩
theorem OP(v:AV):∀(l:List AV) (f:Nat) (l':List AV),Xg v l f=some l'->f<l.length/\l'=l.take f++[v]++l.drop (f+1)
 |[],_,_,e=>by cases e
 |x::l,0,l',e=>by cases e;exact⟨Nat.succ_pos _,rfl⟩
 |x::l,n+1,l',e=>by
  obtain⟨a,h1,h2⟩:=cz (show mR (Xg v l n) (fun l=>some (x::l))=some l' from e);cases h2;obtain⟨h3,rfl⟩:=OP v l n a h1;exact⟨Nat.succ_lt_succ h3,rfl⟩
theorem abD{t:TypeId}{x v:AV}{h':HS}(e:stV h (Xq P t) x v=some h'):Ei P h t x v=some (.la gH h'):=by
 unfold stV at e
 cases hz:Xq P t with
 |false=>rw[hz]at e;cases e
 |true=>
  rw[hz]at e
  cases hv:onA v with
  |false=>rw[hv]at e;cases e
  |true=>
   rw[hv]at e
   obtain⟨o,f,rfl,e⟩:=toPH_some e
   obtain⟨y,h1,h2⟩:=cz e
   have h1:h.H.get o=some y:=h1
   cases y with
   |cells l T=>
    obtain⟨l',h3,h4⟩:=cz (show mR (Xg v l f) (stO h o T)=some h' from h2)
    cases h4
    obtain⟨h5,rfl⟩:=OP v l f l' h3
    obtain⟨k1,k2⟩:=Zy hv
    unfold Xq at hz
    cases hi:P.info? t with
    |none=>rw[hi]at hz;cases hz
    |some i=>
     rw[hi]at hz
     have hs:1=i.size:=ah hz
     have hb:Nat.ble (f+1) l.length=true:=Nat.ble_eq_true_of_le h5
     simp only[Ei,cellsOf,h1,ae,hi,k1,bw,List.length_nil,<- hs,xp,List.all_cons,List.all_nil,k2,hb,Bool.and_true,ak]
     rfl
   |_=>cases h2
end
end Go.Proofs.YtjfkdglgecgjfaaGreat.R
namespace Go.Proofs.YtjfkdglgecgjfaaGreat.R
open Go.RowKit
section
variable {P:Program}{h:HS}{K:Tr AV}{o:Oper}{v:AV}
def IC(P:Program)(h:HS)(K:Tr AV)(o:Oper):RV->Prop
 |.val v=>yH P h K o=some (.val v)
 |.la h'=>yH P h K o=some (.la gH h')
 |.enter g a=>yH P h K o=some (.enter g a)/\Bq g h a=none
 |.ext v g a=>yH P h K o=some (.enter g a)/\Bq g h a=some v
 |.dJ=>True
theorem qS{x:Option AV}(hx:∀v,x=some v->yH P h K o=some (.val v)):IC P h K o (vR x):=by
 cases x with
 |none=>trivial
 |some v=>exact hx v rfl
theorem abK{x:Option HS}(hx:∀v,x=some v->yH P h K o=some (.la gH v)):IC P h K o (uR x):=by
 cases x with
 |none=>trivial
 |some v=>exact hx v rfl
theorem iO{r:AR}(e:jC P h K o=some r):yH P h K o=some r:=by unfold yH;rw[e]
theorem zO(e:jC P h K o=none):yH P h K o=DP P K o:=by unfold yH;rw[e]
theorem NZ(k:IntKind)(i:Int):Ji k i=some (.p (.int k i)):=by
 cases i with
 |ofNat n=>exact uD k n
 |negSucc n=>rfl
theorem Th{k l:IntKind}(e:Nat.beq (pZ k) (pZ l)=true):k=l:=by
 cases k<;>cases l<;>first|rfl|cases e
theorem Nq(k:IntKind):KY k=k.bits:=by cases k<;>rfl
theorem UM(k:IntKind)(n:Nat):k.wrap ((n % 2 ^ k.bits:Nat):Int)=k.wrap (n:Int):=by
 have:(((n % 2 ^ k.bits:Nat):Int)) % (2 ^ k.bits:Int)=(n:Int) % (2 ^ k.bits:Int):=by
  rw[Int.natCast_emod];rw[show((2 ^ k.bits:Nat):Int)=(2:Int) ^ k.bits from by simp];exact Int.emod_emod_of_dvd _ (Int.dvd_refl _)
 simp only[IntKind.wrap,this]
theorem Nn(a b:Nat):((a:Int) == (b:Int))=Nat.beq a b:=by
 rw[Bool.eq_iff_iff,beq_iff_eq];exact⟨fun e=>by rw[Int.ofNat.inj e];exact Nat.beq_refl b,fun e=>by rw[ah e]⟩
theorem Nr(a b:Nat):decide ((a:Int)<=(b:Int))=Nat.ble a b:=by
 rw[Bool.eq_iff_iff,decide_eq_true_iff];exact⟨fun e=>Nat.ble_eq_true_of_le (by omega),fun e=>by have:=aj e;omega⟩
theorem Ns(a b:Nat):decide ((a:Int)<(b:Int))=Nat.ble (a+1) b:=by
 rw[Bool.eq_iff_iff,decide_eq_true_iff];exact⟨fun e=>Nat.ble_eq_true_of_le (by omega),fun e=>by have:=aj e;omega⟩
theorem Oy(b:Nat):((2 ^ b:Nat):Int)=(2:Int) ^ b:=by simp
theorem Gl(k:IntKind)(f:Nat->Nat->Nat)(a b:Nat)(hf:∀n,f (a % 2 ^ n) (b % 2 ^ n)=f a b % 2 ^ n):k.wrap ((f (a % 2 ^ k.bits) (b % 2 ^ k.bits):Nat):Int)=k.wrap ((f a b:Nat):Int):=by
 rw[hf,UM]
theorem Zn{op:BinOp}{k:IntKind}{a b:Nat}(hs:shB op=false)(e:Dr op k a b=some v)(t:TypeId):
 ∃u,cw P (binOp op t (.int k a) (.int k b))=some u/\E5 u=v:=by
 have ofn:∀n:Nat,BitVec.ofInt k.bits (n:Int)=BitVec.ofNat k.bits n:=fun n=>by simp
 cases op with
 |add=>
  have:=rN (show qL k (a+b)=some v from e)
  exact⟨.int k (k.wrap ((a:Int)+b)),by simp[binOp,Op.intArith,pure,cw],by rw[this,Int.natCast_add];rfl⟩
 |sub=>
  have e:Bool.rec (motive:=fun _=>Option AV) none (qL k (a-b)) (Nat.ble b a)=some v:=e
  cases hb:Nat.ble b a with
  |false=>rw[hb]at e;cases e
  |true=>
   rw[hb]at e
   have:=rN (show qL k (a-b)=some v from e)
   exact⟨.int k (k.wrap ((a:Int)-b)),by simp[binOp,Op.intArith,pure,cw],by rw[this,Int.ofNat_sub (aj hb)];rfl⟩
 |mul=>
  have:=rN (show qL k (a*b)=some v from e)
  exact⟨.int k (k.wrap ((a:Int)*b)),by simp[binOp,Op.intArith,pure,cw],by rw[this,Int.natCast_mul];rfl⟩
 |quo=>
  cases b with
  |zero=>cases e
  |succ b=>
   have:=rN (show qL k (a/(b+1))=some v from e)
   have hne:¬ ((b:Int)+1=0):=by omega
   exact⟨.int k (k.wrap ((a:Int).tdiv ((b+1:Nat):Int))),by simp[binOp,Op.intDiv,pure,cw,hne],by rw[this];rfl⟩
 |rem=>
  cases b with
  |zero=>cases e
  |succ b=>
   have e:xy k (a % (b+1))=some v:=e
   rw[uD]at e
   cases e
   have hne:¬ ((b:Int)+1=0):=by omega
   exact⟨.int k ((a:Int).tmod ((b+1:Nat):Int)),by simp[binOp,Op.intDiv,pure,cw,hne],rfl⟩
 |and=>
  have:=rN (show qL k (a &&& b)=some v from e)
  refine⟨.int k (k.wrap ((BitVec.ofInt k.bits (a:Int) &&& BitVec.ofInt k.bits (b:Int)).toNat:Nat)),by simp[binOp,Op.intBits,pure,cw],?_⟩
  rw[this,ofn,ofn,BitVec.toNat_and,BitVec.toNat_ofNat,BitVec.toNat_ofNat,Gl k (· &&& ·) a b fun n=>(Nat.and_mod_two_pow ..).symm]
  rfl
 |or=>
  have:=rN (show qL k (a ||| b)=some v from e)
  refine⟨.int k (k.wrap ((BitVec.ofInt k.bits (a:Int) ||| BitVec.ofInt k.bits (b:Int)).toNat:Nat)),by simp[binOp,Op.intBits,pure,cw],?_⟩
  rw[this,ofn,ofn,BitVec.toNat_or,BitVec.toNat_ofNat,BitVec.toNat_ofNat,Gl k (· ||| ·) a b fun n=>(Nat.or_mod_two_pow ..).symm]
  rfl
 |xor=>
  have:=rN (show qL k (a ^^^ b)=some v from e)
  refine⟨.int k (k.wrap ((BitVec.ofInt k.bits (a:Int) ^^^ BitVec.ofInt k.bits (b:Int)).toNat:Nat)),by simp[binOp,Op.intBits,pure,cw],?_⟩
  rw[this,ofn,ofn,BitVec.toNat_xor,BitVec.toNat_ofNat,BitVec.toNat_ofNat,Gl k (· ^^^ ·) a b fun n=>(Nat.xor_mod_two_pow ..).symm]
  rfl
 |shl=>cases hs
 |shr=>cases hs
 |andNot=>cases e
 |eql=>
  have e:Cn (Nat.beq a b)=some v:=e
  rw[wT]at e;cases e
  exact⟨.bool ((a:Int) == (b:Int)),by simp only[binOp,Op.intCmp,ne_eq,not_true_eq_false,if_false];rfl,by rw[Nn];rfl⟩
 |neq=>
  have e:PK (Nat.beq a b)=some v:=e
  rw[Nu]at e;cases e
  exact⟨.bool ((a:Int) !=(b:Int)),by simp only[binOp,Op.intCmp,ne_eq,not_true_eq_false,if_false];rfl,by rw[bne,Nn];rfl⟩
 |lss=>
  have e:Cn (Nat.ble (a+1) b)=some v:=e
  rw[wT]at e;cases e
  exact⟨.bool (decide ((a:Int)<(b:Int))),by simp only[binOp,Op.intCmp,ne_eq,not_true_eq_false,if_false];rfl,by rw[Ns];rfl⟩
 |leq=>
  have e:Cn (Nat.ble a b)=some v:=e
  rw[wT]at e;cases e
  exact⟨.bool (decide ((a:Int)<=(b:Int))),by simp only[binOp,Op.intCmp,ne_eq,not_true_eq_false,if_false];rfl,by rw[Nr];rfl⟩
 |gtr=>
  have e:Cn (Nat.ble (b+1) a)=some v:=e
  rw[wT]at e;cases e
  exact⟨.bool (decide ((b:Int)<(a:Int))),by simp only[binOp,Op.intCmp,ne_eq,not_true_eq_false,if_false];rfl,by rw[Ns];rfl⟩
 |geq=>
  have e:Cn (Nat.ble b a)=some v:=e
  rw[wT]at e;cases e
  exact⟨.bool (decide ((b:Int)<=(a:Int))),by simp only[binOp,Op.intCmp,ne_eq,not_true_eq_false,if_false];rfl,by rw[Nr];rfl⟩
theorem Uf{op:BinOp}{k l:IntKind}{a b:Nat}(hs:shB op=true)(e:Dr op k a b=some v)(t:TypeId):
 ∃u,cw P (binOp op t (.int k a) (.int l b))=some u/\E5 u=v:=by
 have hn:¬ ((b:Int)<0):=by omega
 cases op with
 |shl=>
  have e:Bool.rec (motive:=fun _=>Option AV) none (qL k (a*2 ^ b)) (Nat.ble b (KY k))=some v:=e
  cases hb:Nat.ble b (KY k)with
  |false=>rw[hb]at e;cases e
  |true=>
   rw[hb]at e
   have hle:b<=k.bits:=by rw[<- Nq];exact aj hb
   have:=rN (show qL k (a*2 ^ b)=some v from e)
   exact⟨.int k (k.wrap ((a:Int)*2 ^ b)),by simp[binOp,Op.shift,hn,Nat.min_eq_left hle,pure,cw],by rw[this,Int.natCast_mul,Oy];rfl⟩
 |shr=>
  have e:Bool.rec (motive:=fun _=>Option AV) none (xy k (a/2 ^ b)) (Nat.ble b (KY k))=some v:=e
  cases hb:Nat.ble b (KY k)with
  |false=>rw[hb]at e;cases e
  |true=>
   rw[hb]at e
   have hle:b<=k.bits:=by rw[<- Nq];exact aj hb
   have e:xy k (a/2 ^ b)=some v:=e
   rw[uD]at e;cases e
   refine⟨.int k ((a:Int).fdiv (2 ^ b)),by simp[binOp,Op.shift,hn,Nat.min_eq_left hle,pure,cw],?_⟩
   rw[<- Oy,Int.fdiv_eq_ediv_of_nonneg _ (Int.natCast_nonneg _)]
   rfl
 |_=>cases hs
theorem Yk{op:BinOp}{t t2:TypeId}{x y:Operand}(ho:o.op=.binOp op t x y t2)(e:yN (aao op) (uA x K) (uA y K)=some v):yH P h K o=some (.val v):=by
 obtain⟨u1,u2,h1,h2,e_1⟩:=nH e;rw[jT]at h1 h2;obtain⟨k,i,rfl,e_2⟩:=toI_some (show toI u1 (XF op u2)=some v from e_1);obtain⟨a,rfl,e_3⟩:=uL (show L7 i (fun a=>toI u2 (RJ op k a))=some v from e_2);obtain⟨l,j,rfl,e_4⟩:=toI_some (show toI u2 (RJ op k a)=some v from e_3);obtain⟨b,rfl,e_5⟩:=uL (show L7 j (aan op k a l)=some v from e_4);have hop:jC P h K o=none:=by
  simp only[jC,ho,NT,h1,h2,ae];cases op<;>rfl
 rw[zO hop];obtain⟨u,k1,k2⟩:∃u,cw P (binOp op t (.int k a) (.int l b))=some u/\E5 u=v:=by
  have e_5:Bool.rec (motive:=fun _=>Option AV) (Bool.rec (motive:=fun _=>Option AV) none (Dr op k a b) (Nat.beq (pZ k) (pZ l))) (Dr op k a b) (shB op)=some v:=e_5
  cases hs:shB op with
  |true=>rw[hs]at e_5;exact Uf hs e_5 t
  |false=>
   rw[hs]at e_5
   cases hk:Nat.beq (pZ k) (pZ l)with
   |false=>rw[hk]at e_5;cases e_5
   |true=>rw[hk]at e_5;have e_6:Dr op k a b=some v:=e_5;cases Th hk;exact Zn hs e_6 t
 have c1:KF K x=some (.int k a):=by simp only[KF,h1,ae,toV,conv]
 have c2:KF K y=some (.int l b):=by simp only[KF,h2,ae,toV,conv]
 have hg:∀p q,cw P (eqGuard op t p q (.int k a) (.int l b))=some ():=fun p q=>by cases op<;>rfl
 have hr:cw P (execOp (fun x=>(KF K x).getD undef) o)=some (.value u):=by
  simp only[execOp,ho,c1,c2,Option.getD_some,gv,hg,k1,ae];rfl
 unfold DP;simp only[ho,Op.operands,List.all_cons,List.all_nil,c1,c2,Option.isSome_some,Bool.and_self];rw[hr,<- k2]
theorem abL{op:UnOp}{t:TypeId}{x:Operand}(ho:o.op=.unOp op t x)(e:mR (uA x K) (unV op)=some v):yH P h K o=some (.val v):=by
 obtain⟨u1,h1,e⟩:=cz e;rw[jT]at h1;have hop:jC P h K o=none:=by simp only[jC,ho]
 rw[zO hop];obtain⟨w1,u,k0,k1,k2⟩:∃w1 u,u1=.p w1/\toV u1=some w1/\cw P (Op.unary op w1)=some u/\E5 u=v:=by
  cases op with
  |neg=>
   obtain⟨k,i,rfl,e⟩:=toI_some (show toI u1 abl=some v from e)
   have e:Ji k (k.wrap (0-i))=some v:=e
   rw[NZ]at e
   cases e
   exact⟨_,.int k (k.wrap (0-i)),rfl,by simp only[toV,conv],by simp[Op.unary,Op.intArith,pure,cw],rfl⟩
  |not=>
   obtain⟨b,rfl,e⟩:=toB_some (show toB u1 PK=some v from e)
   have e:PK b=some v:=e
   rw[Nu]at e;cases e
   exact⟨_,.bool !b,rfl,by simp only[toV,conv],rfl,rfl⟩
  |xor=>cases e
  |plus=>cases e
 have c1:KF K x=some w1:=by simp only[KF,h1,ae,k1]
 have hr:cw P (execOp (fun x=>(KF K x).getD undef) o)=some (.value u):=by
  simp only[execOp,ho,c1,Option.getD_some,gv,k2.1,ae];rfl
 unfold DP;simp only[ho,Op.operands,List.all_cons,List.all_nil,c1,Option.isSome_some,Bool.and_self];rw[hr,<- k2.2]
theorem ub(t:TypeId){d:TypeDesc}(e:P.underlying t=some d):cw P (underlying t)=some d:=by
 unfold underlying;simp only[gv,program,cw,ae,e];rfl
theorem aaz{s d:TypeId}{x:Operand}(ho:o.op=.convert s d x)(e:mR (uA x K) (cvV (cvt P s d))=some v):yH P h K o=some (.val v):=by
 obtain⟨u1,h1,e_1⟩:=cz e;rw[jT]at h1
 cases hq:cvt P s d with
 |none=>rw[hq]at e_1;cases e_1
 |some k=>
  rw[hq]at e_1
  obtain⟨l,n,rfl,e_2⟩:=toI_some (show toI u1 (fun _ i=>Int.rec (motive:=fun _=>Option AV) (qL k) (fun m=>Ji k (k.wrap (.negSucc m))) i)=some v from e_1)
  have ev:v=.p (.int k (k.wrap n)):=by
   cases n with
   |ofNat n=>exact rN e_2
   |negSucc m=>
    have e_2:Ji k (k.wrap (.negSucc m))=some v:=e_2
    rw[NZ]at e_2
    cases e_2
    rfl
  unfold cvt at hq
  split at hq
  . rename_i ds k' hs hd
    cases hq
    have hop:jC P h K o=none:=by
     simp only[jC,ho,Fi,h1,ae,xc,hs,hd]
    rw[zO hop]
    have c1:KF K x=some (.int l n):=by simp only[KF,h1,ae,toV,conv]
    have hc:cw P (convert s d (.int l n))=some (.int k (k.wrap n)):=by
     unfold convert;simp only[gv,ub s hs,ub d hd,ae];cases ds<;>rfl
    have hr:cw P (execOp (fun x=>(KF K x).getD undef) o)=some (.value (.int k (k.wrap n))):=by
     simp only[execOp,ho,c1,Option.getD_some,gv,hc,ae];rfl
    unfold DP
    simp only[ho,Op.operands,List.all_cons,List.all_nil,c1,Option.isSome_some,Bool.and_self]
    rw[hr,ev]
    rfl
  . cases hq
theorem aaO{t:TypeId}{x:Operand}{i:Nat}(ho:o.op=.fieldAddr t x i)(e:mR (uA x K) (faV (YL P t i))=some v):yH P h K o=some (.val v):=by
 obtain⟨u1,h1,e_1⟩:=cz e;rw[jT]at h1;obtain⟨d,hq,e_2⟩:=cz e_1;obtain⟨q,f,rfl,e_3⟩:=toP_some e_2;rw[GZ]at e_3;cases e_3;refine iO ?_;simp only[jC,ho,AU,h1,ae,rq];unfold YL at hq;split at hq
 . rename_i fs hu;simp only[aa]at hq;obtain⟨fl,e2,inf,e3,hq⟩:=hq;split at hq
   . rename_i hb;cases hq;simp only[hu,e2,e3,hb,ae];rfl
   . cases hq
 . cases hq
theorem aaP{t:TypeId}{x:Operand}{i:Nat}(ho:o.op=.field t x i)(e:mR (uA x K) (fiV (YM P t i))=some v):yH P h K o=some (.val v):=by
 obtain⟨u1,h1,e_1⟩:=cz e;rw[jT]at h1;obtain⟨d,hq,e_2⟩:=cz e_1;obtain⟨l,rfl,e_3⟩:=toG_some e_2;refine iO ?_;simp only[jC,ho,NU,h1,ae,GV];unfold YM at hq;split at hq
 . rename_i fs hu;simp only[ab]at hq;obtain⟨fl,e2,rfl⟩:=hq;simp only[hu,e2,ae,Dj (P:=P) e_3,ak]
 . cases hq
theorem aa1{t:TypeId}{x y:Operand}(ho:o.op=.indexAddr t x y)(e:yN (iaV (YY P t)) (uA x K) (uA y K)=some v):yH P h K o=some (.val v):=by
 obtain⟨u1,u2,h1,h2,e_1⟩:=nH e;rw[jT]at h1 h2;obtain⟨q,hq,e_2⟩:=cz e_1;obtain⟨k,j,rfl,e_3⟩:=toI_some e_2;obtain⟨i,rfl,e_4⟩:=uL e_3;refine iO ?_;have hn:wb (.p (.int k (i:Int)))=some i:=by simp[wb]
 simp only[jC,ho,AW,h1,h2,ae,rF,hn];unfold YY at hq;split at hq
 . rename_i n el hu;simp only[ab]at hq;obtain⟨inf,e2,rfl⟩:=hq;obtain⟨p,f,rfl,e_5⟩:=toP_some (show iaP n inf.size u1 i=some v from e_4)
   cases hb:Nat.ble (i+1) n with
   |false=>rw[show Nat.ble (Nat.succ i) n=false from hb]at e_5;cases e_5
   |true=>
    rw[show Nat.ble (Nat.succ i) n=true from hb]at e_5
    have e_5:Qb p (f+i*inf.size)=some v:=e_5
    rw[GZ]at e_5;cases e_5
    simp only[hu,e2,hb,ae]
 . rename_i el hu;simp only[ab]at hq;obtain⟨inf,e2,rfl⟩:=hq;obtain⟨p,f,n,c,z,rfl,e_6⟩:=toS_some (show iaS inf.size u1 i=some v from e_4)
   cases hb:Nat.ble (i+1) n with
   |false=>rw[show Nat.ble (Nat.succ i) n=false from hb]at e_6;cases e_6
   |true=>
    rw[show Nat.ble (Nat.succ i) n=true from hb]at e_6
    have e_6:Qb p (f+i*inf.size)=some v:=e_6
    rw[GZ]at e_6;cases e_6
    simp only[hu,e2,hb,ae]
 . cases hq
theorem aa4{t:TypeId}{x y:Operand}(ho:o.op=.index t x y)(e:yN (ixV (Y0 P t)) (uA x K) (uA y K)=some v):yH P h K o=some (.val v):=by
 obtain⟨u1,u2,h1,h2,e_1⟩:=nH e;rw[jT]at h1 h2;obtain⟨q,hq,e_2⟩:=cz e_1;obtain⟨k,j,rfl,e_3⟩:=toI_some e_2;obtain⟨i,rfl,e_4⟩:=uL e_3;obtain⟨l,rfl,e_5⟩:=toG_some e_4;refine iO ?_;have hn:wb (.p (.int k (i:Int)))=some i:=by simp[wb]
 simp only[jC,ho,NV,h1,h2,ae,G2,hn];unfold Y0 at hq;split at hq
 . rename_i n el hu;simp only[ab]at hq;obtain⟨inf,e2,rfl⟩:=hq
   cases hb:Nat.ble (i+1) n with
   |false=>rw[show Nat.ble (Nat.succ i) n=false from hb]at e_5;cases e_5
   |true=>
    rw[show Nat.ble (Nat.succ i) n=true from hb]at e_5
    have e_5:Z9 (fD P el) l (i*inf.size)=some v:=e_5
    simp only[hu,e2,hb,ae,Dj e_5,ak]
 . cases hq
theorem aaL{x:Operand}{i:Nat}(ho:o.op=.extract x i)(e:mR (uA x K) (exV i)=some v):yH P h K o=some (.val v):=by
 obtain⟨u1,h1,e_1⟩:=cz e;rw[jT]at h1;obtain⟨l,rfl,e_2⟩:=toT_some e_1;rw[Hh]at e_2;exact iO (by simp only[jC,ho,Fj,h1,ae,e_2,ak])
theorem NS:∀(l:List Operand) {r:List AV},GM l K=some r->P4 K l=some r
 |[],_,e=>e
 |x::l,r,e=>by
  obtain⟨a,b,h1,h2,h3⟩:=nH (show yN (fun v l=>some (v::l)) (uA x K) (GM l K)=some r from e);cases h3;rw[jT]at h1;simp only[P4,h1,ae,NS l h2,ak]
theorem aav{c:Call}(ho:o.op=.call c):IC P h K o (clR (TA P c) h K):=by
 have hop:∀{g:FuncId} {l:List AV},c.callee=.value (.func g)->pc P g=true->GM c.args.toList K=some l->yH P h K o=some (.enter g l):=fun hc hb hl=>iO (by
  simp only[jC,ho,LA,IY,NS _ hl,ae,hc,eB,hb,aO,aW])
 unfold TA;split
 . rename_i g hc;split
   . rename_i hb;split
     . show IC P h K o (aaK h g (GM c.args.toList K))
       cases hl:GM c.args.toList K with
       |none=>trivial
       |some l=>
        show IC P h K o (aaJ g l (Bq g h l))
        cases hv:Bq g h l with
        |none=>trivial
        |some v=>exact⟨hop hc hb hl,hv⟩
     . rename_i he;show IC P h K o (enR g (GM c.args.toList K))
       cases hl:GM c.args.toList K with
       |none=>trivial
       |some l=>exact⟨hop hc hb hl,by unfold Bq;rw[he]⟩
   . trivial
 . rename_i hc;split
   . rename_i t ts x ht hx;split
     . rename_i e hu;refine qS fun v ev=>?_
       obtain⟨u,h1,h2⟩:=cz ev;obtain⟨p,f,n,cc,z,rfl,h3⟩:=toS_some (show toS u (fun _ _ n=>xy .i64 n)=some v from h2);rw[uD]at h3;cases h3;rw[jT]at h1;refine iO ?_;simp only[jC,ho,LA,IY,hx,P4,h1,ae,ak,hc,isRec,wU,ht,hu];rfl
     . trivial
   . trivial
 . trivial
theorem Hp:IC P h K o (WU o.op P h K):=by
 cases ho:o.op with
 |move x=>exact qS fun v e=>iO (by rw[jT]at e;simp only[jC,ho,Sp,e,ak])
 |assign x=>exact qS fun v e=>iO (by rw[jT]at e;simp only[jC,ho,Jd,e,ak])
 |load t x=>exact qS fun v e=>iO (by
  obtain⟨u,h1,h2⟩:=cz e;rw[jT]at h1;simp only[jC,ho,Sn,h1,ae,XW h2,ak])
 |store t x y=>exact abK fun v e=>iO (by
  obtain⟨u,h1,h2⟩:=cz e;obtain⟨u',h3,h4⟩:=cz h2;rw[jT]at h1 h3;simp only[jC,ho,NX,h1,h3,ae,abD h4])
 |nilCheck x=>exact qS fun v e=>iO (by
  obtain⟨u,h1,h2⟩:=cz e;rw[jT]at h1;cases u<;>first|(cases h2;simp only[jC,ho,CT,h1,ae])|cases h2)
 |binOp op t x y t2=>exact qS fun v e=>Yk ho e
 |unOp op t x=>exact qS fun v e=>abL ho e
 |convert s d x=>exact qS fun v e=>aaz ho e
 |fieldAddr t x i=>exact qS fun v e=>aaO ho e
 |field t x i=>exact qS fun v e=>aaP ho e
 |indexAddr t x y=>exact qS fun v e=>aa1 ho e
 |index t x y=>exact qS fun v e=>aa4 ho e
 |extract x i=>exact qS fun v e=>aaL ho e
 |call c=>exact aav ho
 |_=>trivial
end
end Go.Proofs.YtjfkdglgecgjfaaGreat.R
namespace Go.Proofs.YtjfkdglgecgjfaaGreat.R
open Go.RowKit
section
variable {P:Program}{W:World->Prop}{ih:sJ}{c:Cx}{h:HS}{K K0 K':Tr AV}{td td' k:List AI}{L:List Rt}{ops:Array Oper}{i:Nat}{l:List Nat}{o:Oper}{v:AV}{S0:qW}{z:cW}{pe:List (Nat×Fl)}
theorem Xn{r:AR}(ho:rA ops i=some o)(hg:kF ops K o=some true)(hr:yH P h K o=some r):
 gG P (c.st h K (.ops ops (i::l)::k) .run)=jR P (c.st h K (.ops ops (i::l)::k) .run) r:=by
 have ho:ops[i]?=some o:=ho
 simp only[gG,po,Cx.st,Cx.fr,rU,ho,hg,hr]
theorem Lj(ho:rA ops i=some o):n8 ops i=o.dst:=by
 have ho:ops[i]?=some o:=ho;simp only[n8,ho,ae]
def Py(c:Cx)(K:Tr AV)(td td':List AI)(d:Option Nat):Prop:=∀v K',mf K c.n d v=some K'->cl (c.fr K td .run) v=some (c.fr K' td' .run)
theorem Sr(ho:rA ops i=some o):Py c K (.ops ops (i::l)::k) (.ops ops l::k) o.dst:=fun v K' e=>by
 simp only[cl,Cx.fr,Lj ho,e,ak]
theorem Sq(ho:rA ops i=some o):Py c K (.qA ops K0 (i::l) pe::k) (.qA ops K0 l (EL ops i pe)::k) o.dst:=fun v K' e=>by
 simp only[cl,Cx.fr,Lj ho,e,ak,GW]
theorem Nd(hX:∀w0,W w0->gL P w0)(H:yK P W ih)(hf:Py c K td td' o.dst)(hs:gG P S0=jR P (c.st h K td .run) (.val v))(e:qN ih c h K td' o.dst v=some L):Good P W S0 c.bf (c.cs.drop c.e) L:=by
 obtain⟨K',e1,e2⟩:=MD H e;refine cX hX (s':=c.st h K' td' .run) (.inl ?_) e2;have hF:=hf v K' e1;rw[hs];show lG "finish" ((cl (c.fr K td .run) v).map fun fr=>ia.one ⟨h,fr,c.cs⟩)=_;rw[hF];rfl
theorem Vt(hX:∀w0,W w0->gL P w0)(H:yK P W ih)(hf:Py c K td td' o.dst){h':HS}(hs:gG P S0=jR P (c.st h K td .run) (.la v h'))(e:qN ih c h' K td' o.dst v=some L):Good P W S0 c.bf (c.cs.drop c.e) L:=by
 obtain⟨K',e1,e2⟩:=MD H e;refine cX hX (s':=c.st h' K' td' .run) (.inl ?_) e2;have hF:=hf v K' e1;rw[hs];show lG "finish" ((cl (c.fr K td .run) v).map fun fr=>ia.one ⟨h',fr,c.cs⟩)=_;rw[hF];rfl
theorem Vs(hX:∀w0,W w0->gL P w0)(H:yK P W ih)(hf:Py c K td td' o.dst){g:FuncId}{a:List AV}(hv:Bq g h a=some v)(hs:gG P S0=jR P (c.st h K td .run) (.enter g a))(e:qN ih c h K td' o.dst v=some L):Good P W S0 c.bf (c.cs.drop c.e) L:=by
 refine Nd hX H hf (hs.trans ?_) e;show(match Bq g h a with
  |some v=>lG "finish" ((cl (c.fr K td .run) v).map fun fr=>ia.one ⟨h,fr,c.cs⟩)
  |none=>_)=_
 rw[hv];rfl
theorem Nh:∀(l:List AV) (i:Nat) (K:Tr AV),Vw l i K=PG i K l
 |[],_,_=>rfl
 |_::l,i,K=>Nh l (i+1) _
theorem Oh:∀l:List AV,Wu l=l.length
 |[]=>rfl
 |_::l=>congrArg Nat.succ (Oh l)
theorem VI(hX:∀w0,W w0->gL P w0)(H:yK P W ih){g:FuncId}{a:List AV}(hn:Bq g h a=none)(hs:gG P S0=jR P (c.st h K td .run) (.enter g a))
 (e:Nx P ih c h K td g a=some L):Good P W S0 c.bf (c.cs.drop c.e) L:=by
 obtain⟨⟨cd,n⟩,h1,h2⟩:=cz e
 have h2:C7 n (fun m=>Bool.rec (motive:=fun _=>cW) none (ih ⟨Nat.succ c.e,c.fr K td .run::c.cs,g,m,[],.normal,none⟩ h (Vw a 0 .nil) [.code cd] .run) (Nat.ble (Wu a) m))=some L:=h2
 rw[xz]at h2
 cases hb:Nat.ble (Wu a) n with
 |false=>rw[hb]at h2;cases h2
 |true=>
  rw[hb]at h2
  refine cX hX (s':=Cx.st ⟨Nat.succ c.e,c.fr K td .run::c.cs,g,n,[],.normal,none⟩ h (Vw a 0 .nil) [.code cd] .run) (.inr (.inl ?_)) (H _ _ _ _ _ _ h2)
  rw[hs]
  simp only[Nt,aa,ab]at h1
  obtain⟨fn,e1,cd',e2,e3⟩:=h1
  cases e3
  rw[Oh]at hb
  simp only[jR,hn,tj,e1,e2,ae,hb,ak,lG,Nh,Cx.st,Cx.fr]
theorem Ru(hX:∀w0,W w0->gL P w0)(H:yK P W ih)(hf:Py c K td td' o.dst){rv:RV}(hv:IC P h K o rv)(hs:∀r,yH P h K o=some r->gG P S0=jR P (c.st h K td .run) r)
 (hz:z=some L->Good P W S0 c.bf (c.cs.drop c.e) L)
 (e:RV.rec (motive:=fun _=>cW) (fun v=>qN ih c h K td' o.dst v) (fun h'=>qN ih c h' K td' o.dst gH) (fun g a=>Nx P ih c h K td g a) (fun v _ _=>qN ih c h K td' o.dst v) z rv=some L):Good P W S0 c.bf (c.cs.drop c.e) L:=by
 cases rv with
 |val v=>exact Nd hX H hf (hs _ hv) e
 |la h'=>exact Vt hX H hf (hs _ hv) e
 |enter g a=>exact VI hX H hv.2 (hs _ hv.1) e
 |ext v g a=>exact Vs hX H hf hv.2 (hs _ hv.1) e
 |dJ=>exact hz e
theorem Tv(hX:∀w0,W w0->gL P w0)(H:yK P W ih)(ho:rA ops i=some o)(hg:kF ops K o=some true)(e:opS P ih c h K ops i l k o=some L):Good P W (c.st h K (.ops ops (i::l)::k) .run) c.bf (c.cs.drop c.e) L:=by
 refine Ru hX H (Sr ho) (Hp (P:=P) (h:=h) (K:=K) (o:=o)) (fun r hr=>Xn ho hg hr) (z:=dJ P ih c h K (.ops ops (i::l)::k) .run) (fun z=>ko hX H z) ?_;unfold opS at e;cases hr:WU o.op P h K<;>rw[hr]at e<;>exact e
theorem toA_some{x:AV}{q:Bool->cW}{z:cW}(e:toA x q z=some L):(∃b,x=.p (.bool b)/\q b=some L)\/z=some L:=by
 cases x with
 |p u=>
  have e:abM u q z=some L:=e
  cases u<;>first|exact .inl ⟨_,rfl,e⟩|exact .inr e
 |_=>exact .inr e
theorem Sf(a b:Bool):Z7 a b=(a == b):=by cases a<;>cases b<;>rfl
theorem VU(ops:Array Oper)(j:Nat):I8 ops j=n8 ops j:=rfl
theorem ZA(hX:∀w0,W w0->gL P w0)(H:yK P W ih)(e:abr P ih c h K ops k l=some L):Good P W (c.st h K (.ops ops l::k) .run) c.bf (c.cs.drop c.e) L:=by
 cases l with
 |nil=>exact cX hX (s':=c.st h K k .run) (.inl rfl) (H _ _ _ _ _ _ e)
 |cons i l=>
  have e:Option.rec (motive:=fun _=>cW) none (fun o=>YX o.guard P ih c h K ops i l k o) (rA ops i)=some L:=e
  cases ho:rA ops i with
  |none=>rw[ho]at e;cases e
  |some o=>
   rw[ho]at e
   have e:YX o.guard P ih c h K ops i l k o=some L:=e
   cases hg:o.guard with
   |none=>
    rw[hg]at e
    exact Tv hX H ho (by simp only[kF,hg]) e
   |some jw=>
    obtain⟨j,w⟩:=jw
    rw[hg]at e
    have e:Option.rec (motive:=fun _=>cW) none
     (fun v=>toA v (fun b=>Bool.rec (motive:=fun _=>cW) (qN ih c h K (.ops ops l::k) o.dst gH) (opS P ih c h K ops i l k o) (Z7 b w)) (dJ P ih c h K (.ops ops (i::l)::k) .run))
     (mR (I8 ops j) fun d=>rB (A1 d) K)=some L:=e
    cases hv:mR (I8 ops j) fun d=>rB (A1 d) K with
    |none=>rw[hv]at e;cases e
    |some v=>
     rw[hv]at e
     obtain⟨d,h1,h2⟩:=cz hv
     rcases toA_some e with⟨b,rfl,e9⟩|e9
     . have hgd:kF ops K o=some (b == w):=by
        have h2:K.get d=some (.p (.bool b)):=h2;simp only[kF,hg,<- VU,h1,ae,h2,ak]
       cases hb:Z7 b w with
       |true=>
        rw[hb]at e9
        exact Tv hX H ho (by rw[hgd,<- Sf,hb]) e9
       |false=>
        rw[hb]at e9
        obtain⟨K',e1,e2⟩:=MD H e9
        refine cX hX (.inl ?_) e2
        have ho':ops[i]?=some o:=ho
        have hgd:kF ops K o=some false:=by rw[hgd,<- Sf,hb]
        simp only[gG,po,Cx.st,Cx.fr,rU,ho',hgd,cl,Lj ho,e1,ak,lG]
     . exact ko hX H e9
theorem VM(hX:∀w0,W w0->gL P w0)(H:yK P W ih){a b:Code}{z:cW}{x:Operand}(hz:z=some L->Good P W (c.st h K (.code (.cond x a b)::k) .run) c.bf (c.cs.drop c.e) L)(e:RY P ih c h K k a b z x=some L):
 Good P W (c.st h K (.code (.cond x a b)::k) .run) c.bf (c.cs.drop c.e) L:=by
 unfold RY at e
 cases hx:uA x K with
 |none=>rw[hx]at e;exact hz e
 |some v=>
  rw[hx]at e
  rcases toA_some e with⟨t,rfl,e9⟩|e9
  . rw[jT]at hx
    cases t with
    |true=>exact cX hX (s':=c.st h K (.code a::k) .run) (.inl (by simp only[gG,po,mA,Cx.st,Cx.fr,hx])) (H _ _ _ _ _ _ e9)
    |false=>exact cX hX (s':=c.st h K (.code b::k) .run) (.inl (by simp only[gG,po,mA,Cx.st,Cx.fr,hx])) (H _ _ _ _ _ _ e9)
  . exact hz e9
theorem Lw{id:Nat}:∀{l r:List AI},exR id l=some r->xm id l=some r
 |[],_,e=>by cases e
 |x::l,r,e=>by
  cases x with
  |mQ n=>
   have e:Bool.rec (motive:=fun _=>Option (List AI)) (exR id l) (some l) (Nat.beq n id)=some r:=e
   unfold xm
   cases hb:Nat.beq n id with
   |true=>rw[hb]at e;exact e
   |false=>rw[hb]at e;exact Lw e
  |_=>exact Lw (l:=l) e
theorem Hx:∀{l:List ResultVar} {r:List AV},TK P h K l=some r->Bw P h K l=some r
 |[],_,e=>e
 |x::l,r,e=>by
  obtain⟨a,b,h1,h2,h3⟩:=nH (show yN (fun v l=>some (v::l)) (abt P h K x) (TK P h K l)=some r from e);cases h3
  cases x with
  |tmp t=>
   have h1:K.get t=some a:=h1
   simp only[Bw,h1,ae,Hx h2,ak]
  |cell q t=>
   obtain⟨u,h3,h4⟩:=cz (show mR (rB (A1 q) K) (ldV (fD P t) h)=some a from h1)
   have h3:K.get q=some u:=h3
   simp only[Bw,h3,ae,XW h4,Hx h2,ak]
theorem Hy(l:List AV):DV l=Mr l:=by
 match l with
 |[]=>rfl
 |[_]=>rfl
 |_::_::_=>rfl
theorem BL(hX:∀w0,W w0->gL P w0)(H:yK P W ih){z:cW}(hl:c.rd=none->Good P W (c.st h K td .ret) c.bf (c.cs.drop c.e) L->Good P W S0 c.bf (c.cs.drop c.e) L)(hb:∀rs,DT td rs=true)
 (hz:z=some L->Good P W S0 c.bf (c.cs.drop c.e) L) (e:TL P ih c h K z=some L):Good P W S0 c.bf (c.cs.drop c.e) L:=by
 obtain⟨ee,cs,fn,n,ds,kind,rd⟩:=c
 cases rd with
 |some r=>exact hz e
 |none=>
  cases ds with
  |cons d ds=>exact hz e
  |nil=>
   have e:Bool.rec (motive:=fun _=>cW) z (abu P ih ⟨ee,cs,fn,n,[],kind,none⟩ h K z) (Zp kind)=some L:=e
   cases hk:Zp kind with
   |false=>rw[hk]at e;exact hz e
   |true=>
    rw[hk]at e
    cases Tg hk
    have e:C7 fn (fun f=>Option.rec (motive:=fun _=>cW) z (fun l=>Nat.rec (motive:=fun _=>cW) (Yt cs h (DV l) z) (fun e _=>List.rec (motive:=fun _=>cW) z (fun A cs _=>CY A ih e cs h (DV l) z) cs) ee) (mR (WZ P f) (TK P h K)))=some L:=e
    rw[xz]at e
    cases hr:mR (WZ P fn) (TK P h K)with
    |none=>rw[hr]at e;exact hz e
    |some vs=>
     rw[hr]at e
     obtain⟨rs,h1,h2⟩:=cz hr
     simp only[WZ,ab]at h1
     obtain⟨f,h1,rfl⟩:=h1
     have h2:=Hx h2
     cases ee with
     |zero=>
      have e:Yt cs h (DV vs) z=some L:=e
      cases cs with
      |nil=>
       cases e
       refine hl rfl (qF (r:=.ret h (DV vs)) ?_ (aq ..))
       exact⟨rfl,rfl,rfl,rfl,rfl,rfl,f,vs,h1,h2,hb _,Hy vs⟩
      |cons A cs=>
       rcases Jg (show CY A (fun _ _ _ _ _=>some [.ret h (DV vs)]) 0 cs h (DV vs) z=some L from e)with e|⟨A',e1,_,e2⟩
       . exact hz e
       . cases e2
         refine hl rfl (cX hX (s':=⟨h,A',cs⟩) (.inr (.inr ?_)) (qF (r:=.ret h (DV vs)) ⟨A',e1,rfl⟩ (aq ..)))
         rw[Hy]at e1
         simp only[gG,u9,Cx.st,Cx.fr,h1,ae,h2,hb,e1,ak,lG]
     |succ ee=>
      cases cs with
      |nil=>exact hz e
      |cons A cs=>
       rcases LG H (show CY A ih ee cs h (DV vs) z=some L from e)with e|⟨A',e1,e2⟩
       . exact hz e
       . refine hl rfl (cX hX (s':=⟨h,A',cs⟩) (.inr (.inr ?_)) e2)
         rw[Hy]at e1
         simp only[gG,u9,Cx.st,Cx.fr,h1,ae,h2,hb,e1,ak,lG]
theorem He(hm:LY ops i o=true):Bu ops K0 K i o=K:=by
 have:∀ts:List Tmp,(ts.all fun t=>match D.writer ops t with
  |none=>true
  |some j=>D.pO ops j i)=true->∀K,Hd ops K0 i ts K=K:=by
  intro ts
  induction ts with
  |nil=>intro _ K;rfl
  |cons t ts ih=>
   intro h K
   simp only[List.all_cons,al]at h
   unfold Hd
   rw[ih h.2]
   have h1:=h.1
   cases hw:D.writer ops t with
   |none=>rfl
   |some j=>
    rw[hw]at h1
    simp only at h1 ⊢
    rw[h1]
 exact this _ hm K
theorem LL(hg:XN o=true):kF ops K o=some true:=by
 unfold XN at hg;unfold kF
 cases h:o.guard with
 |none=>rfl
 |some g=>rw[h]at hg;cases hg
theorem Ur{n:Nat}{h:HS}:∀{pe pe':List (Nat×Fl)} {K K':Tr AV},HF P ops l n h pe K=some (K',pe')->oJ P ops K0 l n pe h K=some (h,K',pe')
 |[],pe',K,K',e=>by cases e;rfl
 |(i,fl)::pe,pe',K,K',e=>by
  have ox:∀{fl:Fl} {pe'':List (Nat×Fl)} {K K':Tr AV},Kq (HF P ops l n h pe) (i,fl) K=some (K',pe'')->(oJ P ops K0 l n pe h K).map (fun r=>(r.1,r.2.1,(i,fl)::r.2.2))=some (h,K',pe''):=by
   intro fl pe'' K K' e;obtain⟨r,h1,h2⟩:=cz e;cases h2;rw[Ur (show HF P ops l n h pe K=some (r.1,r.2) from h1)];rfl
  cases fl with
  |val=>unfold oJ;exact ox e
  |new q=>unfold oJ;exact ox e
  |no=>
   have e:Bool.rec (motive:=fun _=>IH) (mR (rA ops i) (ZO P ops n h (HF P ops l n h pe) i K)) (Kq (HF P ops l n h pe) (i,.no) K) (RA ops l i)=some (K',pe'):=e
   unfold oJ
   simp only
   cases ha:RA ops l i with
   |true=>
    rw[ha]at e
    have ha:(l.any fun c=>D.pO ops c i)=true:=ha
    rw[ha]
    exact ox e
   |false=>
    rw[ha]at e
    have ha:(l.any fun c=>D.pO ops c i)=false:=ha
    rw[ha]
    obtain⟨o,ho,e⟩:=cz e
    have ho:ops[i]?=some o:=ho
    simp only[ho,ae]
    unfold ZO at e
    cases hm:LY ops i o with
    |false=>rw[hm]at e;cases e
    |true=>
     rw[hm]at e
     cases hg:XN o with
     |false=>rw[hg]at e;cases e
     |true=>
      rw[hg]at e
      have hv:=Hp (P:=P) (h:=h) (K:=K) (o:=o)
      rw[He (K0:=K0) (K:=K) hm,LL (ops:=ops) (K:=K) hg]
      simp only[ae]
      cases hr:WU o.op P h K with
      |val v=>
       rw[hr]at e hv
       have hv:yH P h K o=some (.val v):=hv
       rw[hv]
       simp only[ae]
       have e:abE n (HF P ops l n h pe) i K v o.dst=some (K',pe'):=e
       cases hd:o.dst with
       |none=>
        rw[hd]at e
        simp only[mf,ak,ae]
        exact ox e
       |some d=>
        rw[hd]at e
        have e:Bool.rec (motive:=fun _=>IH) none (Kq (HF P ops l n h pe) (i,.val) (EX (A1 d) (some v) K)) (Nat.ble (d+1) n)=some (K',pe'):=e
        cases hb:Nat.ble (d+1) n with
        |false=>rw[hb]at e;cases e
        |true=>
         rw[hb]at e
         simp only[mf,hb,ak,ae]
         exact ox e
      |la h'=>rw[hr]at e;cases e
      |enter g a=>rw[hr]at e;cases e
      |ext v g a=>rw[hr]at e;cases e
      |dJ=>rw[hr]at e;cases e
theorem VV{n:Nat}{d:Option Nat}(e:Yr K n v d=true):I7 K n d v=true:=by
 cases d with
 |none=>rfl
 |some d=>
  have e:Bool.rec (motive:=fun _=>Bool) false (Option.rec (motive:=fun _=>Bool) false (fun u=>Jc u v) (rB (A1 d) K)) (Nat.ble (Nat.succ d) n)=true:=e
  cases hb:Nat.ble (d+1) n with
  |false=>rw[show Nat.ble (Nat.succ d) n=false from hb]at e;cases e
  |true=>
   rw[show Nat.ble (Nat.succ d) n=true from hb]at e
   have e:Option.rec (motive:=fun _=>Bool) false (fun u=>Jc u v) (K.get d)=true:=e
   unfold I7
   simp only[hb,Bool.true_and]
   cases hk:K.get d with
   |none=>rw[hk]at e;cases e
   |some u=>rw[hk]at e;exact Lv e
theorem RQ{n:Nat}{h:HS}:∀{pe:List (Nat×Fl)},RO P ops l n h K pe=true->pe.all (Gq P ops K0 n h K)=true/\(pe.all fun q=>!Wn q.2||l.any fun c=>D.pO ops c q.1)=true/\wc pe=[]
 |[],_=>⟨rfl,rfl,rfl⟩
 |(i,fl)::pe,e=>by
  obtain⟨h1,h2⟩:=ew (show kr (Fl.rec (motive:=fun _=>Bool) (RA ops l i) (Option.rec (motive:=fun _=>Bool) false (Ym P ops n h K i) (rA ops i)) (fun _=>false) fl) (RO P ops l n h K pe)=true from e);obtain⟨h3,h4,h5⟩:=RQ h2;simp only[List.all_cons,al]
  cases fl with
  |no=>exact⟨⟨rfl,h3⟩,⟨h1,h4⟩,h5⟩
  |new q=>cases h1
  |val=>
   refine⟨⟨?_,h3⟩,⟨rfl,h4⟩,h5⟩
   have h1:Option.rec (motive:=fun _=>Bool) false (Ym P ops n h K i) (rA ops i)=true:=h1
   cases ho:rA ops i with
   |none=>rw[ho]at h1;cases h1
   |some o=>
    rw[ho]at h1
    have ho:ops[i]?=some o:=ho
    obtain⟨k1,k2⟩:=ew (show kr (LY ops i o) (kr (XN o) (RV.rec (motive:=fun _=>Bool) (fun v=>Yr K n v o.dst) (fun _=>false) (fun _ _=>false) (fun _ _ _=>false) false (WU o.op P h K)))=true from h1)
    obtain⟨k2,k3⟩:=ew k2
    have hv:=Hp (P:=P) (h:=h) (K:=K) (o:=o)
    unfold Gq
    simp only[ho,He (K0:=K0) (K:=K) k1,LL (ops:=ops) (K:=K) k2]
    cases hr:WU o.op P h K with
    |val v=>
     rw[hr]at k3 hv
     have hv:yH P h K o=some (.val v):=hv
     rw[hv]
     exact VV k3
    |la h'=>rw[hr]at k3;cases k3
    |enter g a=>rw[hr]at k3;cases k3
    |ext v g a=>rw[hr]at k3;cases k3
    |dJ=>rw[hr]at k3;cases k3
theorem Sb(hX:∀w0,W w0->gL P w0)(H:yK P W ih)(hz:z=some L->Good P W (c.st h K (.qA ops K0 l pe::k) .run) c.bf (c.cs.drop c.e) L)
 (e:Sa P ih c h K ops K0 l pe k z=some L):Good P W (c.st h K (.qA ops K0 l pe::k) .run) c.bf (c.cs.drop c.e) L:=by
 unfold Sa at e
 cases hs:HF P ops l c.n h pe K with
 |none=>rw[hs]at e;exact hz e
 |some r=>
  obtain⟨K1,pe1⟩:=r
  rw[hs]at e
  have hst:=Ur (K0:=K0) hs
  have e:Bool.rec (motive:=fun _=>cW) z (Bool.rec (motive:=fun _=>cW) z (List.rec (motive:=fun _=>cW) (ih c h K1 k .run) (fun i t _=>Option.rec (motive:=fun _=>cW) z (Sc P ih c h K1 ops K0 i t pe1 k z) (rA ops i)) l) (ZC ops l)) (RO P ops l c.n h K1 pe1)=some L:=e
  cases hc:RO P ops l c.n h K1 pe1 with
  |false=>rw[hc]at e;exact hz e
  |true=>
   rw[hc]at e
   cases ho:ZC ops l with
   |false=>rw[ho]at e;exact hz e
   |true=>
    rw[ho]at e
    obtain⟨h1,h2,h3⟩:=RQ (K0:=K0) hc
    have hk:RP P ops K0 c.n l h K1 pe1=true:=by
     unfold RP;rw[h1,h2,h3];exact ho
    cases l with
    |nil=>
     refine cX hX (s':=c.st h K1 k .run) (.inl ?_) (H _ _ _ _ _ _ e)
     simp only[gG,po,Cx.st,Cx.fr,qy,hst,hk]
    |cons i t=>
     have e:Option.rec (motive:=fun _=>cW) z (Sc P ih c h K1 ops K0 i t pe1 k z) (rA ops i)=some L:=e
     cases hi:rA ops i with
     |none=>rw[hi]at e;exact hz e
     |some o=>
      rw[hi]at e
      have e:Sc P ih c h K1 ops K0 i t pe1 k z o=some L:=e
      unfold Sc at e
      cases hm:LY ops i o with
      |false=>rw[hm]at e;exact hz e
      |true=>
       rw[hm]at e
       cases hg:XN o with
       |false=>rw[hg]at e;exact hz e
       |true=>
        rw[hg]at e
        have hi':ops[i]?=some o:=hi
        refine Ru hX H (td:=.qA ops K0 (i::t) pe1::k) (Sq hi) (Hp (P:=P) (h:=h) (K:=K1) (o:=o)) (fun r hr=>?_) hz e
        simp only[gG,po,Cx.st,Cx.fr,qy,hst,hk,rU,hi',He (K0:=K0) (K:=K1) hm,LL (ops:=ops) (K:=K1) hg,hr]
theorem RT(hX:∀w0,W w0->gL P w0)(H:yK P W ih)(x:Code)(e:XH x P ih c h K k=some L):Good P W (c.st h K (.code x::k) .run) c.bf (c.cs.drop c.e) L:=by
 cases x with
 |skip=>exact cX hX (s':=c.st h K k .run) (.inl rfl) (H _ _ _ _ _ _ e)
 |region id ops dr=>
  cases dr with
  |false=>exact cX hX (s':=c.st h K (.ops ops (X2 ops)::k) .run) (.inl rfl) (H _ _ _ _ _ _ e)
  |true=>
   have e:Bool.rec (motive:=fun _=>cW) (dJ P ih c h K (.code (.region id ops true)::k) .run) (ih c h K (.qA ops K (zd ops) (wk ops)::k) .run) (Yn P ops c.n)=some L:=e
   cases hq:Yn P ops c.n with
   |false=>rw[hq]at e;exact ko hX H e
   |true=>
    rw[hq]at e
    have hq:(P.follows .mixedOrders&&K9 ops c.n)=true:=hq
    exact cX hX (s':=c.st h K (.qA ops K (zd ops) (wk ops)::k) .run) (.inl (by simp only[gG,po,mA,Cx.st,Cx.fr,hq])) (H _ _ _ _ _ _ e)
 |seq a b=>exact cX hX (s':=c.st h K (.code a:: .code b::k) .run) (.inl rfl) (H _ _ _ _ _ _ e)
 |cond x a b=>exact VM hX H (fun z=>ko hX H z) e
 |block id b=>exact cX hX (s':=c.st h K (.code b:: .mQ id::k) .run) (.inl rfl) (H _ _ _ _ _ _ e)
 |loop b=>exact cX hX (s':=c.st h K (.code b:: .lp b::k) .run) (.inl rfl) (H _ _ _ _ _ _ e)
 |scope b=>exact cX hX (s':=c.st h K (.code b:: .sc b::k) .run) (.inl rfl) (H _ _ _ _ _ _ e)
 |exit id=>
  have e:Option.rec (motive:=fun _=>cW) (dJ P ih c h K (.code (.exit id)::k) .run) (fun k=>ih c h K k .run) (exR id k)=some L:=e
  cases hx:exR id k with
  |none=>rw[hx]at e;exact ko hX H e
  |some k'=>
   rw[hx]at e
   exact cX hX (s':=c.st h K k' .run) (.inl (by simp only[gG,po,mA,Cx.st,Cx.fr,Lw hx])) (H _ _ _ _ _ _ e)
 |ret=>
  refine BL hX H (td:=.code .ret::k) (fun hn g=>cX hX (.inl ?_) g) (fun rs=>rfl) (fun z=>ko hX H z) e
  simp only[gG,po,mA,mX,Cx.st,Cx.fr,hn]
 |_=>exact ko hX H e
theorem SN(hX:∀w0,W w0->gL P w0)(H:yK P W ih)(x:AI)(e:XQ x P ih c h K k=some L):Good P W (c.st h K (x::k) .run) c.bf (c.cs.drop c.e) L:=by
 cases x with
 |code cd=>exact RT hX H cd e
 |mQ id=>exact cX hX (s':=c.st h K k .run) (.inl rfl) (H _ _ _ _ _ _ e)
 |lp cd=>exact cX hX (s':=c.st h K (.code cd:: .lp cd::k) .run) (.inl rfl) (H _ _ _ _ _ _ e)
 |sc cd=>exact cX hX (s':=c.st h K k .run) (.inl rfl) (H _ _ _ _ _ _ e)
 |ops ops l=>exact ZA hX H e
 |qA ops K0 td pe=>exact Sb hX H (fun z=>ko hX H z) e
 |_=>exact ko hX H e
theorem Wz(hX:∀w0,W w0->gL P w0)(H:yK P W ih):yK P W (XY P ih):=by
 intro c h K td md L e
 cases md with
 |run=>
  cases td with
  |nil=>
   refine BL hX H (td:=[]) (fun hn g=>cX hX (.inl ?_) g) (fun rs=>rfl) (fun z=>ko hX H z) e
   simp only[gG,po,mX,Cx.st,Cx.fr,hn]
  |cons x k=>exact SN hX H x e
 |ret=>
  have hz:∀L,dJ P ih c h K td .ret=some L->Good P W (c.st h K td .ret) c.bf (c.cs.drop c.e) L:=fun L z=>ko hX H z
  cases td with
  |nil=>exact BL hX H (td:=[]) (fun _ g=>g) (fun rs=>rfl) (hz L) e
  |cons x k=>
   cases x with
   |code cd=>exact BL hX H (td:=.code cd::k) (fun _ g=>g) (fun rs=>rfl) (hz L) e
   |_=>exact hz L e
 |KH l=>exact ko hX H e
theorem BW(hX:∀w0,W w0->gL P w0):∀f:Nat,yK P W (abw P f)
 |0=>fun c h K td md _ e=>by cases e;exact qF (r:=.stop c h K td md) ⟨rfl,rfl,rfl⟩ (aq ..)
 |f+1=>Wz hX (BW hX f)
end
end Go.Proofs.YtjfkdglgecgjfaaGreat.R
namespace Go.Proofs.YtjfkdglgecgjfaaGreat.R
open Go.RowKit
noncomputable section
def isT(x:AV):Bool:=match x with
 |.p (.bool true)=>true
 |_=>false
def Wo(r:Rt):Bool:=match r with
 |.ret _ v=>isT v
 |.stop .. =>false
theorem Y8{x:AV}(h:isT x=true):x=.p (.bool true):=by
 unfold isT at h;split at h
 . rfl
 . cases h
structure CS where
 c:Cx
 h:HS
 K:Tr AV
 td:List AI
def CS.run(P:Program)(n:Nat)(s:CS):cW:=abw P n s.c s.h s.K s.td .run
def CS.rt(s:CS):Rt:=.stop s.c s.h s.K s.td .run
def R6(ids:List Nat)(nx:Nat)(r:Rt):Rt:=Rt.rec (motive:=fun _=>Rt) (fun h v=>.ret h v) (fun c h K td md=>.stop c ⟨Bz ids h.H,LW h.nx nx⟩ K td md) r
def CK(ids:List Nat)(nx:Nat)(a:cW):Option Rt:=mR a fun l=>match l with
 |[x]=>some (R6 ids nx x)
 |_=>none
def Ee(P:Program)(f:FuncId):Option CS:=mR (Nt P f) fun q=>some ⟨⟨0,[],f,q.2,[],.normal,none⟩,⟨.nil,0⟩,.nil,[.code q.1]⟩
def Un(P:Program)(f:FuncId)(ids:List Nat)(n:Nat):Option Rt:=mR (Ee P f) fun s=>CK ids 0 (s.run P n)
def stR(e:Nat)(s:qW):Rt:=.stop ⟨e,s.cs,s.fr.fn,s.fr.n,s.fr.ds,s.fr.kind,s.fr.rd⟩ s.h s.fr.K s.fr.todo s.fr.mode
def Sv(P:Program)(ids:List Nat)(s:CS):Option (List Rt):=match gG P (s.c.st s.h s.K s.td .run)with
 |.many l=>some (l.map fun t=>R6 ids 0 (stR s.c.e t))
 |_=>none
def Ys(a:cW):Bool:=match a with
 |some l=>l.all Wo
 |none=>false
def gM(P:Program)(W:World->Prop)(s:CS):Prop:=∀w0,W w0->∀(cs0:List Frame) (m:Machine),Ir w0 cs0 (s.c.st s.h s.K s.td .run) m->
 ∃r,Wo r=true/\∃s',Rg P s.c.bf (s.c.cs.drop s.c.e) r s'/\∃m',Steps P m m'/\Ir w0 cs0 s' m'
theorem Yv{P:Program}{W:World->Prop}(hX:∀w0,W w0->gL P w0){s:CS}{n:Nat}(h:Ys (s.run P n)=true):gM P W s:=by
 unfold Ys at h;split at h
 . rename_i l hs;intro w0 hw cs0 m hS;obtain⟨r,hr,h2⟩:=BW hX n _ _ _ _ _ _ hs w0 hw cs0 m hS;exact⟨r,aE.1 h r hr,h2⟩
 . cases h
theorem UC{P:Program}{W:World->Prop}{c:Cx}{h:HS}{K:Tr AV}{td:List AI}{md:AM}{t:CS}{ids:List Nat}{nx:Nat}(e:R6 ids nx (.stop c h K td md)=t.rt)(g:gM P W t)
 {w0:World} (hw:W w0) {cs0:List Frame} {m:Machine} (hS:Ir w0 cs0 (c.st h K td md) m):∃r,Wo r=true/\∃s',Rg P c.bf (c.cs.drop c.e) r s'/\∃m',Steps P m m'/\Ir w0 cs0 s' m':=by
 have h2:Rt.stop c ⟨Bz ids h.H,LW h.nx nx⟩ K td md=.stop t.c t.h t.K t.td .run:=e
 simp only[Rt.stop.injEq]at h2
 obtain⟨rfl,e2,rfl,rfl,rfl⟩:=h2
 have hc:E0 (t.c.st h t.K t.td .run) (t.c.st t.h t.K t.td .run):=by
  rw[<- e2];exact I2 (fun o=>DX h.H o ids) (Oo h.nx nx).1
 exact g w0 hw cs0 m (hc w0 cs0 m hS)
theorem pU{P:Program}{W:World->Prop}(hX:∀w0,W w0->gL P w0){s t:CS}{ids:List Nat}{nx n:Nat}(h:CK ids nx (s.run P n)=some t.rt)(g:gM P W t):gM P W s:=by
 obtain⟨l,h1,h2⟩:=cz h;split at h2
 . rename_i x;have hg:=BW hX n _ _ _ _ _ _ h1;have h2:R6 ids nx x=t.rt:=ax h2
   cases x with
   |ret=>cases h2
   |stop c h' K td md=>
    intro w0 hw cs0 m hS
    obtain⟨r,hr,s1,hR,m1,k1,k2⟩:=hg w0 hw cs0 m hS
    rcases aB.1 hr with rfl|hr
    . obtain⟨rfl,e3,e4⟩:=hR
      obtain⟨q,q1,s2,q2,m2,q3,q4⟩:=UC h2 g hw k2
      rw[e3,e4]at q2
      exact⟨q,q1,s2,q2,m2,k1.trans q3,q4⟩
    . cases hr
 . cases h2
theorem Wb{P:Program}{W:World->Prop}(hX:∀w0,W w0->gL P w0){s:CS}{ts:List CS}{ids:List Nat}(h:Sv P ids s=some (ts.map CS.rt))(g:∀t∈ts,gM P W t):gM P W s:=by
 unfold Sv at h;have hsh:=Ki (P:=P) (S:=s.c.st s.h s.K s.td .run);split at h
 . rename_i ss hs;have h:=ax h;intro w0 hw cs0 m hS;have hst:=Ef (P:=P) (hX w0 hw) hS;rw[hs]at hst hsh;obtain⟨s1,hs1,m1,t1,t2⟩:=hst;have hm:R6 ids 0 (stR s.c.e s1)∈ts.map CS.rt:=by rw[<- h];exact List.mem_map_of_mem hs1
   obtain⟨t,ht,e⟩:=List.mem_map.1 hm;obtain⟨e1,e2⟩:=hsh s1 hs1;have e1:s1.cs=s.c.cs:=e1;have e2:s1.fr.fn=s.c.fn:=e2;obtain⟨q,q1,s2,q2,m2,q3,q4⟩:=UC (c:=⟨s.c.e,s1.cs,s1.fr.fn,s1.fr.n,s1.fr.ds,s1.fr.kind,s1.fr.rd⟩) (h:=s1.h) (K:=s1.fr.K) (td:=s1.fr.todo) (md:=s1.fr.mode) e.symm (g t ht) hw t2;refine⟨q,q1,s2,?_,m2,t1.trans q3,q4⟩;have hb:Cx.bf ⟨s.c.e,s1.cs,s1.fr.fn,s1.fr.n,s1.fr.ds,s1.fr.kind,s1.fr.rd⟩=s.c.bf:=by simp only[Cx.bf,e1,e2]
   rw[hb]at q2;simp only[e1]at q2;exact q2
 . cases h
def Xx(P:Program)(n k:Nat)(ids:List Nat)(nx:Nat)(t:CS):Option Rt:=mR (CS.run P n {t with c:={t.c with e:=k}}) fun l=>match l,t.c.cs.drop k,Nat.ble (k+1) t.c.e with
 |[.ret h v],A::cs,true=>(cl A v).map fun A=>.stop ⟨t.c.e-(k+1),cs,A.fn,A.n,A.ds,A.kind,A.rd⟩ ⟨Bz ids h.H,LW h.nx nx⟩ A.K A.todo A.mode
 |_,_,_=>none
theorem MO{P:Program}{W:World->Prop}(hX:∀w0,W w0->gL P w0){s t:CS}{ids:List Nat}{nx n k:Nat}(h:Xx P n k ids nx s=some t.rt)(g:gM P W t):gM P W s:=by
 obtain⟨l,h1,h2⟩:=cz h;split at h2
 . rename_i hh v A cs hd hb;simp only[ab]at h2;obtain⟨A',hA,h2⟩:=h2;have hle:=aj hb;have hg:=BW hX n _ _ _ _ _ _ h1;intro w0 hw cs0 m hS;obtain⟨r,hr,s1,hR,m1,k1,k2⟩:=hg w0 hw cs0 m hS;rcases aB.1 hr with rfl|hr
   . have hR:Rp P _ (s.c.cs.drop k) (hh,v) s1:=hR;rw[hd]at hR;obtain⟨A2,hA2,rfl⟩:=hR;have hA2:cl A v=some A2:=hA2;rw[hA]at hA2;cases hA2;have hfn:=lX hA;obtain⟨q,q1,s2,q2,m2,q3,q4⟩:=UC (c:=⟨s.c.e-(k+1),cs,A'.fn,A'.n,A'.ds,A'.kind,A'.rd⟩) (h:=hh) (K:=A'.K) (td:=A'.todo) (md:=A'.mode) (ids:=ids) (nx:=nx) h2 g hw k2;refine⟨q,q1,s2,?_,m2,k1.trans q3,q4⟩;have e1:cs.drop (s.c.e-(k+1))=s.c.cs.drop s.c.e:=by
      have:cs=s.c.cs.drop (k+1):=by rw[<- List.drop_drop,hd];rfl
      rw[this,List.drop_drop];congr 1;omega
     have e2:Cx.bf ⟨s.c.e-(k+1),cs,A'.fn,A'.n,A'.ds,A'.kind,A'.rd⟩=s.c.bf:=by
      obtain⟨d,hd'⟩:∃d,s.c.e=d+(k+1):=⟨s.c.e-(k+1),by omega⟩;have hm:A'.fn::cs.map (·.fn)=(s.c.cs.map (·.fn)).drop k:=by rw[<- List.map_drop,hd,aF,hfn]
      unfold Cx.bf;simp only;rw[hm,hd',List.getElem?_drop,show d+(k+1)=(k+d)+1 by omega,List.getElem?_cons_succ];congr 1;omega
     rw[e2]at q2;simp only[e1]at q2;exact q2
   . cases hr
 . cases h2
theorem yt{P:Program}{W:World->Prop}(hX:∀w0,W w0->gL P w0){f:FuncId}{t:CS}{ids:List Nat}{n:Nat}(h:Un P f ids n=some t.rt)(g:gM P W t):∃s,Ee P f=some s/\gM P W s:=by
 obtain⟨s,h1,h2⟩:=cz h;exact⟨s,h1,pU hX h2 g⟩
theorem MH{P:Program}{W:World->Prop}{f:FuncId}(h:∃s,Ee P f=some s/\gM P W s):∃A,tj P f [] .normal=some A/\∀w0,W w0->∀(cs0:List Frame) (m:Machine),Ir w0 cs0 ⟨⟨.nil,0⟩,A,[]⟩ m->
 ∃r,Wo r=true/\∃s',Rg P (some f) [] r s'/\∃m',Steps P m m'/\Ir w0 cs0 s' m':=by
 obtain⟨s,h,g⟩:=h
 obtain⟨⟨c,k⟩,h1,h2⟩:=cz h
 cases h2
 simp only[Nt,aa,ab]at h1
 obtain⟨fn,e1,c',e2,e3⟩:=h1
 cases e3
 exact⟨⟨f,fn.ntmps,.nil,[.code c],[],.run,.normal,none⟩,by simp only[tj,e1,e2,PG,ae,List.length_nil,show ∀n,Nat.ble 0 n=true from fun n=>rfl],g⟩
theorem Uj{P:Program}{W:World->Prop}{f:FuncId}(h:∃s,Ee P f=some s/\gM P W s)(m:Mem)(hw:W m.w):Spec P f #[] m [] fun v _ L'=>L'=[]/\v=.bool true:=by
 obtain⟨A,hA,hg⟩:=MH h
 ·
  have hfr:FR (fun _=>none) A (Frame.enter P f #[] .normal) []:=xj (aS:=[]) hA rfl
  intro cs
  have hS:Ir m.w cs ⟨⟨.nil,0⟩,A,[]⟩ (lone (Frame.enter P f #[] .normal) cs m.w):=
   ⟨fun _=>none,Frame.enter P f #[] .normal,[],m.w,[],[],rfl,
    ⟨⟨rfl,rfl,rfl,Nat.le_refl _,fun _ _=>rfl⟩,fun o x q hx _=>(by rw[get_nil]at hx;cases hx),fun o o' x x' q q' hx=>(by rw[get_nil]at hx;cases hx),fun o q hq=>(by cases hq),fun o _=>⟨rfl,get_nil o⟩⟩,
    hfr,.nil,⟨List.nodup_nil,fun q hq=>by cases hq⟩⟩
  obtain⟨r,hT,s,hR,m',hst,hS'⟩:=hg m.w hw cs _ hS
  cases r with
  |stop=>cases hT
  |ret qh qv=>
  obtain⟨hfn,hh,hcs,hmode,hds,hkind,fn,vs,e1,e2,e3,e4⟩:=hR
  obtain⟨ρ,fr,cs',w,u,us,rfl,H,hf,hcs',hF⟩:=hS'
  have hT:=Y8 (show isT qv=true from hT)
  have e4:qv=Mr vs:=e4
  rw[hcs]at hcs'
  cases hcs'
  rw[hh]at H
  obtain⟨v,k1,k2⟩:=wo (P:=P) (s:=s) (by rw[hh];exact H) hf (by rw[hh];exact e2) e3
  rw[<- e4,hT]at k2
  simp only[conv,af]at k2
  subst k2
  have hfm:=hf.mode
  rw[hmode]at hfm
  simp only[gF,af]at hfm
  have hfd:=hf.ds
  rw[hds]at hfd
  simp only[gQ,af]at hfd
  cases hfn
  refine⟨.returned (.bool true),w,fr,⟨.bool true,⟨w,m.im⟩,[],rfl,rfl,?_,rfl,rfl⟩,hst,hf.fn,⟨hfm.symm,hfd.symm,by rw[hf.kind,hkind],fn,by rw[hf.fn];exact e1,k1⟩⟩
  have hO:=H.out
  have hc:∀b o,b<m.w.heap.size->w.cell? ⟨b,o,none⟩=m.w.cell? ⟨b,o,none⟩:=fun b o hb=>by
   simp only[World.cell?,hO.kept b hb]
  exact⟨⟨hO.os,hO.tape,hO.output,hO.size,fun b o hb=>⟨⟨hb.1,Nat.lt_of_lt_of_le hb.2 hO.size⟩,hc b o hb.2⟩⟩,
   fun b hb _=>hO.kept b hb,fun b o hb=>by
    rcases Nat.lt_or_ge b m.w.heap.size with k|k
    . exact .inl ⟨hb.1,k⟩
    . exact .inr (.inl k),
   Ow.nil _,fun b hb=>by cases hb⟩
def xi(n:Nat):AV:=.p (.int .i64 (.ofNat n))
def xu(n:Nat):AV:=.p (.int .u8 (.ofNat n))
def xn(k:IntKind)(n:Nat):AV:=.p (.int k (.ofNat n))
def xt:AV:=.p (.bool true)
def xf:AV:=.p (.bool false)
def xU(l:List Nat):List AV:=List.rec (motive:=fun _=>List AV) [] (fun n _ r=>xu n::r) l
def xr(o f:Nat):AV:=.ptr o f
def xs(o f n z:Nat):AV:=.sl o f n none z
section
variable {α:Type}
def to:Tr α:=.nil
def tl(v:α):Tr α:=.nd (some v) .nil .nil .nil .nil
def tn(v:α)(a b c d:Tr α):Tr α:=.nd (some v) a b c d
def tm(a b c d:Tr α):Tr α:=.nd none a b c d
end
def cdN:List Nat->Code->Code
 |[],c=>c
 |0::p,.seq a _|0::p,.cond _ a _|0::p,.block _ a|0::p,.loop a|0::p,.scope a|0::p,.rangeFunc _ _ a _=>cdN p a
 |_::p,.seq _ b|_::p,.cond _ _ b|_::p,.rangeFunc _ _ _ b=>cdN p b
 |_::_,_=>.skip
def cd(P:Program)(f:Nat)(p:List Nat):Code:=match P.funcs[f]? with
 |some fn=>(match fn.body with|some c=>cdN p c|none=>.skip)
 |none=>.skip
def od(P:Program)(f:Nat)(p:List Nat):Array Oper:=match cd P f p with
 |.region _ ops _=>ops
 |_=> #[]
end
end Go.Proofs.YtjfkdglgecgjfaaGreat.R
namespace Go.Proofs.YtjfkdglgecgjfaaGreat
section
open Go.RowKit Go.Shelf G
namespace E
variable {S:Nat->Type}{tb:Tb S}
theorem Du(a:List UInt8):Lib.bytesOf (a.map fun c=>(c.toNat:Int))=a:=by
 unfold Lib.bytesOf;rw[List.map_map]
 conv=>rhs;rw[<- List.map_id a]
 exact List.map_congr_left fun c _=>by simp
theorem Ky(l:List UInt8):∀x∈l.map fun c=>(c.toNat:Int),0<=x/\x<256:=by
 intro x hx;obtain⟨c,_,rfl⟩:=List.mem_map.1 hx;have:=c.toNat_lt;omega
end E
end
section
def Jz:Go.Shelf.Ren:=⟨fun|185=>139|187=>186|115=>152|253=>187|224=>188|254=>189|255=>233|291=>234|n=>n,fun|37=>38|3=>3|4=>4|0=>0|5=>5|46=>238|9=>9|146=>313|51=>202|n=>n,fun|1=>0|n=>n⟩
theorem Wt:Go.Proofs.Lays.n185 Tryz.prog Jz:={
 mixed:=by kernel_rfl
 f115:=Tryz.func152.trans (congrArg some (by kernel_rfl))
 f185:=Tryz.func139.trans (congrArg some (by kernel_rfl))
 f187:=Tryz.func186.trans (congrArg some (by kernel_rfl))
 f224:=Tryz.func188.trans (congrArg some (by kernel_rfl))
 f253:=Tryz.func187.trans (congrArg some (by kernel_rfl))
 f254:=Tryz.func189.trans (congrArg some (by kernel_rfl))
 f255:=Tryz.func233.trans (congrArg some (by kernel_rfl))
 f291:=Tryz.func234.trans (congrArg some (by kernel_rfl))
 t0:=Tryz.underlying0
 a0:=Tryz.isAgg0
 z0:=Tryz.sizeOf0
 v0:=Tryz.zeroValue0
 t3:=Tryz.underlying3
 a3:=Tryz.isAgg3
 z3:=Tryz.sizeOf3
 v3:=Tryz.zeroValue3
 t4:=Tryz.underlying4
 a4:=Tryz.isAgg4
 z4:=Tryz.sizeOf4
 v4:=Tryz.zeroValue4
 t5:=Tryz.underlying5
 a5:=Tryz.isAgg5
 z5:=Tryz.sizeOf5
 v5:=Tryz.zeroValue5
 t9:=Tryz.underlying9
 a9:=Tryz.isAgg9
 z9:=Tryz.sizeOf9
 v9:=Tryz.zeroValue9
 t37:=Tryz.underlying38
 a37:=Tryz.isAgg38
 z37:=Tryz.sizeOf38
 v37:=Tryz.zeroValue38
 t46:=Tryz.underlying238
 a46:=Tryz.isAgg238
 z46:=Tryz.sizeOf238
 v46:=Tryz.zeroValue238
 t51:=Tryz.underlying202
 a51:=Tryz.isAgg202
 z51:=Tryz.sizeOf202
 v51:=Tryz.zeroValue202
 t146:=Tryz.underlying313
 a146:=Tryz.isAgg313
 z146:=Tryz.sizeOf313
 v146:=Tryz.zeroValue313
 g1:=by kernel_rfl}
end
section
open Go.RowKit G
open E
set_option maxRecDepth 100000
noncomputable section
def aas:dS Sx:={f:=224,ins:=[.one (.eX (.int .u32)),.one (.eX (.int .i64))],ls:=[(.int .u32),(.int .i64)],outs:=[{out:=.one (.eX (.int .u32)),vm:=[(.int .u32)]}],uU:=fun x=>iA x.1 x.2}
theorem ZM:SX aas:=fq Tryz.f224 [.tmp 4] {fn:=224} .o (bJ)
end
end
end Go.Proofs.YtjfkdglgecgjfaaGreat
namespace Go.Proofs.YtjfkdglgecgjfaaGreat.R
open Go.RowKit Go.Shelf G
section
variable {w0 w:World}{ρ:lP}{h:HS}
theorem Nv:∀{l:List AV} {b:List UInt8} {us:List Value},PM l=some b->bX ρ l=some us->us.length=b.length/\∀i,i<b.length->us[i]?=some (.int .u8 ((b.map fun c=>(c.toNat:Int)).getD i 0))
 |[],b,us,e,hc=>by
  cases e;simp only[bX,af]at hc;subst hc;exact⟨rfl,fun i hi=>by cases hi⟩
 |x::l,b,us,e,hc=>by
  obtain⟨u,us,rfl,h1,h2⟩:=dy hc;unfold PM at e;split at e
  . rename_i heq;cases heq
  . rename_i n l' heq;cases heq;split at e
    . rename_i hn;simp only[ab]at e;obtain⟨b',e1,rfl⟩:=e;obtain⟨k1,k2⟩:=Nv e1 h2;rw[dR h1];refine⟨by simp only[bw,k1],fun i hi=>?_⟩
      cases i with
      |zero=>
       have hle:=aj hn
       simp only[List.getElem?_cons_zero,aF,List.getD_cons_zero,af,Value.int.injEq,true_and]
       have:(UInt8.ofNat n).toNat=n:=by simp only[UInt8.toNat_ofNat'];omega
       rw[this];rfl
      |succ i=>
       simp only[List.getElem?_cons_succ,aF,List.getD_cons_succ]
       exact k2 i (Nat.lt_of_succ_lt_succ hi)
    . cases e
  . cases e
theorem Sy{k:IntKind}{i:Int}{v:AV}(e:Ji k i=some v):v=.p (.int k i):=by
 cases i with
 |ofNat n=>cases n<;>(cases e;rfl)
 |negSucc n=>cases e;rfl
theorem Sw{k:IntKind}{n:Nat}{v:AV}(e:xy k n=some v):v=.p (.int k (n:Int)):=by
 cases n<;>(cases e;rfl)
theorem OQ(H:WR w0 ρ h w){o f n z:Nat}{c:Option Nat}{x:Value}{a:List AV}{b:List UInt8}(hx:conv ρ (.sl o f n c z)=some x)(e:tL h 1 n (.sl o f n c z)=some a)(e2:PM a=some b):
 ∃ad cap,x=.slice (some ad) n cap/\b.length=n/\(∀i,i<n->w.cell? (ad.add i)=some (.int .u8 ((b.map fun c=>(c.toNat:Int)).getD i 0)))/\(aat n z c=true->n<=cap):=by
 simp only[tL,aa]at e
 obtain⟨cs,e1,e3⟩:=e
 obtain⟨L,hL,rfl⟩:=ij hx
 have ho:=H.obj _ _ _ (gg e1) hL
 obtain⟨us,k1,k2,k3⟩:=q9 ho e3
 obtain⟨k4,k5⟩:=Nv e2 k1
 rw[Nat.mul_one]at k2
 refine⟨_,_,rfl,by omega,fun i hi=>k3 i _ (k5 i (by omega)),fun hb=>?_⟩
 cases c with
 |some cc=>exact aj hb
 |none=>
  have hz:=ah (show Nat.beq z 1=true from hb)
  subst hz
  obtain⟨_,_,_,_,_,_,o4,_,_⟩:=ho
  obtain⟨rfl,e5⟩:=uy e3
  rw[aM,bh]at e5
  show n<=(L.n-f)/1
  rw[Nat.div_one]
  omega
theorem Y3{P:Program}{r:Go.Shelf.Ren}(L:Lays.n185 P r){m:Int}(hm:w.cell? ⟨r.g 1,0,none⟩=some (.int .i64 m))(H:WR w0 ρ h w){args:List AV}{vs:List Value}{v:AV}(e:YZ h args=some v)(hc:bX ρ args=some vs):
 Calls P (r.f 185) vs.toArray w fun e w'=>∃u,e=.returned u/\conv ρ v=some u/\pN w w'/\∀b,b<w.heap.size->w'.heap[b]?=w.heap[b]?:=by
 unfold YZ at e
 split at e
 . split at e
   . rename_i hb
     simp only[al]at hb
     obtain⟨⟨b1,b2⟩,b3⟩:=hb
     simp only[aa]at e
     obtain⟨x,e1,a,e2,y,e3,b,e4,e5⟩:=e
     obtain⟨x',as1,rfl,h1,hc⟩:=dy hc
     obtain⟨y',as2,rfl,h2,hc⟩:=dy hc
     simp only[bX,af]at hc
     subst hc
     obtain⟨ad1,c1,rfl,l1,k1,kc⟩:=OQ H h1 e1 e2
     obtain⟨ad2,c2,rfl,l2,k2,_⟩:=OQ H h2 e3 e4
     have:=Any.bytes_Index_at L ad1 ad2 _ c1 _ c2 (a.map fun c=>(c.toNat:Int)) (b.map fun c=>(c.toNat:Int)) m w (by rw[aQ,l1]) (by rw[aQ,l2]) (E.Ky a) (E.Ky b) k1 k2 (kc b1)
      (Nat.lt_succ_of_le (aj b2)) (aj b3) hm
     refine this.mono fun e w' ⟨he,q,hw⟩=>⟨_,he,?_,?_,?_⟩
     . rw[E.Du,E.Du,Sy e5];rfl
     . subst hw;exact⟨rfl,rfl,rfl,Nat.le_refl _⟩
     . subst hw;exact fun _ _=>rfl
   . cases e
 . cases e
end
theorem Yj(k:Int):KX .u64 (IntKind.u64.wrap k) 31=((Int.toNat (Int.emod k 32):Nat):Int):=by
 have e:(BitVec.ofInt 64 (IntKind.u64.wrap k) &&& BitVec.ofInt 64 31).toNat=Int.toNat (Int.emod k 32):=by
  rw[BitVec.toNat_and,BitVec.toNat_ofInt,BitVec.toNat_ofInt,show((31:Int) % ((2 ^ 64:Nat):Int)).toNat=2 ^ 5-1 from rfl,Nat.and_two_pow_sub_one_eq_mod];show((k % 18446744073709551616) % 18446744073709551616).toNat % 32=(k % 32).toNat;omega
 show IntKind.u64.wrap (((BitVec.ofInt 64 (IntKind.u64.wrap k) &&& BitVec.ofInt 64 31).toNat:Nat):Int)=_;rw[e];show((Int.toNat (k % 32):Nat):Int) % 18446744073709551616=((Int.toNat (k % 32):Nat):Int);omega
theorem W1(a:Nat)(k:Int):iA (a:Int) k=some ((J9 a (Int.toNat (Int.emod k 32)):Nat):Int):=by
 have hs:Int.toNat (Int.emod k 32)<32:=by show(k % 32).toNat<32;omega
 unfold iA;simp only[Yj];generalize Int.toNat (Int.emod k 32)=s at hs;have e2:IntKind.u64.wrap ((32:Int)-(s:Int))=((32-s:Nat):Int):=by
  show((32:Int)-(s:Int)) % 18446744073709551616=_;omega
 rw[e2];have c1:nW (0<=(s:Int))=some ():=by unfold nW;rw[if_pos (by omega)]
 have c2:nW (0<=((32-s:Nat):Int))=some ():=by unfold nW;rw[if_pos (by omega)]
 rw[c1,c2];simp only[ae,af];have e3:Bt .u32 (a:Int) (s:Int)=((a*2 ^ s % 4294967296:Nat):Int):=by
  show((a:Int)*2 ^ (min (Int.toNat (s:Int)) 32)) % 4294967296=_;rw[aG,Nat.min_eq_left (by omega)];rw[Int.natCast_emod,Int.natCast_mul,Int.natCast_pow];rfl
 have e4:fR .u32 (a:Int) ((32-s:Nat):Int)=((a/2 ^ (32-s):Nat):Int):=by
  show(a:Int).fdiv (2 ^ (min (Int.toNat ((32-s:Nat):Int)) 32))=_;rw[aG,Nat.min_eq_left (by omega),Int.fdiv_eq_ediv_of_nonneg _ (Int.le_of_lt (Int.pow_pos (by decide)))];rw[Int.natCast_ediv,Int.natCast_pow];rfl
 rw[e3,e4];show IntKind.u32.wrap (((BitVec.ofInt 32 _ ||| BitVec.ofInt 32 _).toNat:Nat):Int)=_;rw[BitVec.ofInt_natCast,BitVec.ofInt_natCast,BitVec.toNat_or,BitVec.toNat_ofNat,BitVec.toNat_ofNat];show(((a*2 ^ s % 4294967296 % 4294967296 ||| a/2 ^ (32-s) % 4294967296:Nat):Int)) % 4294967296=_;have e5:(a*2 ^ s % 4294967296 % 4294967296 ||| a/2 ^ (32-s) % 4294967296)=J9 a s:=by
  show _=(a <<< s ||| a >>> (32-s)) % 4294967296;rw[Nat.mod_mod,Nat.shiftLeft_eq,Nat.shiftRight_eq_div_pow,show 4294967296=2 ^ 32 from rfl,Nat.or_mod_two_pow]
 rw[e5];have:J9 a s<4294967296:=Nat.mod_lt _ (by decide);omega
def Wd(w:World):Prop:=∃v:Int,w.cell? ⟨0,0,none⟩=some (.int .i64 v)
theorem Qx{w:World}(hw:Wd w)(a:Nat)(k:Int):Calls Tryz.prog GP #[.int .u32 (a:Int),.int .i64 k] w fun e w'=>∃u,e=.returned u/\u=.int .u32 ((J9 a (Int.toNat (Int.emod k 32)):Nat):Int)/\pN w w'/\∀b,b<w.heap.size->w'.heap[b]?=w.heap[b]?:=by
 obtain⟨v,hv⟩:=hw;have h:=ZM.go ((a:Int),k) ((J9 a (Int.toNat (Int.emod k 32)):Nat):Int) (fun _=>none) (Mem.all w) [.int .u32 (a:Int),.int .i64 k] [] (W1 a k) (fun _ _=>rfl)
  (fun ds args ds1 fm ds2 h1 h2 h3=>by
   have h1:some [(⟨.int .u32,(a:Int)⟩:E.ic E.Sx),⟨.int .i64,k⟩]=some ds:=h1;cases h1;have h2:some ([E.AV.one (.int .u32 (a:Int)),.one (.int .i64 k)],([]:List (E.ic E.Sx)))=some (args,ds1):=h2;cases h2;have h3:some (([]:List (E.AO E.Sx)),([]:List (E.ic E.Sx)))=some (fm,ds2):=h3;cases h3;refine⟨?_,rfl⟩;simp only[E.db];exact⟨_,_,rfl,by simp only[E.bP,E.bM],_,_,rfl,by simp only[E.bP,E.bM],rfl⟩) rfl (Ow.nil _) ⟨Go.Proofs.YtjfkdglgecgjfaaGreat.sN hv,v,hv⟩
 have h:E.sy Tryz.prog GP _ _ _:=h;unfold E.sy at h;rw[if_pos (by decide)]at h;refine h.2.mono fun e w' ⟨u,m',L',he,hm,hS,hp⟩=>?_
 obtain⟨Iu,Ln,_,_,_,hp⟩:=hp;have hp:=(hp (E.Q3 Iu) id [⟨.int .u32,((J9 a (Int.toNat (Int.emod k 32)):Nat):Int)⟩] (.one (.int .u32 ((J9 a (Int.toNat (Int.emod k 32)):Nat):Int))) [] [] (fun i h hh=>hh) rfl rfl rfl).1;simp only[E.bP,E.bM,bc,and_true]at hp;subst hm;exact⟨u,he,hp,⟨hS.le.os,hS.le.tape,hS.le.output,hS.le.size⟩,fun b hb=>hS.kept b hb (by intro h;cases h)⟩
theorem kz(w0:World)(hw:Wd w0):gL Tryz.prog w0:=by
 intro f h args v ρ w vs e H hc;obtain⟨mv,hmv⟩:=hw;have hw1:w.cell? ⟨0,0,none⟩=some (.int .i64 mv):=by
  have hlt:0<w0.heap.size:=(Go.Proofs.YtjfkdglgecgjfaaGreat.sN hmv).2;simp only[World.cell?,H.out.kept 0 hlt]at hmv ⊢;exact hmv
 unfold Bq at e;split at e
 . rename_i hb;unfold aaM at e;split at e
   . rename_i hr;cases ah hr;unfold abv at e;split at e
     . rename_i a k;obtain⟨x',as1,rfl,h1,hc⟩:=dy hc;obtain⟨y',as2,rfl,h2,hc⟩:=dy hc;simp only[bX,af]at hc;subst hc;rw[dR h1,dR h2];refine(Qx ⟨mv,hw1⟩ a k).mono fun e' w' ⟨u,he,hu,hs⟩=>⟨u,he,?_,hs⟩
       rw[Sw e,hu];rfl
     . cases e
   . rename_i hr;have hf:f=Sk:=by
      unfold YI at hb;rw[hr,Bool.false_or]at hb;exact ah hb
     subst hf;exact Y3 Wt hw1 H e hc
 . cases e
theorem QB{f:FuncId}(hle:Nat.ble f 999999=true)(hen:Enters Tryz.prog f)(hg:∃s,Ee Tryz.prog f=some s/\gM Tryz.prog Wd s):
 E.Sound Tryz.prog E.KT ({f:=f,ins:=[],ls:=[],outs:=[{out:=.one (.eX .bo),vm:=[.bo]}],uU:=fun _=>some true}:E.dS E.Sx):=by
 refine⟨fun x y bk m vals Lx hsem hbk AZ hLn hO hBm=>?_⟩
 obtain rfl:Lx=[]:=List.length_eq_zero_iff.1 hLn
 have h0:=(AZ [] [] [] [] [] rfl rfl rfl).1
 simp only[E.db]at h0
 subst h0
 have hy:=ax hsem
 unfold E.sy
 rw[if_pos (aj hle)]
 refine⟨hen,Calls.mono (Uj hg m hBm.2) fun e w' ⟨v,m',L',he,hm,hS,hL,hv⟩=>?_⟩
 subst hL
 refine⟨v,m',[],he,hm,hS,?_⟩
 show E.Na E.KT 0 _ bk [] y _ m' []
 refine⟨fun _=>none,[],rfl,fun i hi=>absurd hi (by omega),fun _ _=>rfl,fun g ids ds out ds1 l _ hd hfill houts=>?_⟩
 have hd:some [(⟨.bo,y⟩:E.ic E.Sx)]=some ds:=hd
 cases hd
 have hfill:some (E.AV.one (E.VC (show Bool from y)),([]:List (E.ic E.Sx)))=some (out,ds1):=hfill
 cases hfill
 have houts:some ([]:List (Nat×E.AO E.Sx))=some l:=houts
 cases houts
 exact⟨by simp only[E.bP,E.VC,E.bM];rw[hv,<- hy],rfl⟩
end Go.Proofs.YtjfkdglgecgjfaaGreat.R
namespace Go.Proofs.YtjfkdglgecgjfaaGreat.R
open Go
noncomputable section
def cq(f:Nat)(p:List Nat):Code:=cd Tryz.prog f p
def oq(f:Nat)(p:List Nat):Array Oper:=od Tryz.prog f p
end
end Go.Proofs.YtjfkdglgecgjfaaGreat.R
