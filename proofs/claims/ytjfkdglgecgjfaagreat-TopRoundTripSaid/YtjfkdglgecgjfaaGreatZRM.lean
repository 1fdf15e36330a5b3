/- Part of the proof. -/
import Derived.Test.YtjfkdglgecgjfaaGreatZRH
import Derived.Shelf.Bytes.SlIndexWhole
namespace Go.Proofs.YtjfkdglgecgjfaaGreat.R
open Go.RowKit
def M1(P:Program)(f:Option FuncId)(B:List AF)(q:HS×AV)(s:n7):Prop:=match B with
 |A::cs=>∃A',bT A q.2=some A'/\s=⟨q.1,A',cs⟩
 |[]=>f=some s.fr.fn/\s.h=q.1/\s.cs=[]/\s.fr.mode=.ret/\s.fr.ds=[]/\s.fr.kind=.normal/\
  ∃fn vs,P.funcs[s.fr.fn]?=some fn/\xO P q.1 s.fr.K fn.results.toList=some vs/\Av s.fr.todo fn.results.toList=true/\q.2=Ig vs
def Cx.bf(c:Cx):Option FuncId:=(c.fn::c.cs.map (·.fn))[c.e]?
def MV(P:Program)(f:Option FuncId)(B:List AF)(r:Rt)(s:n7):Prop:=match r with
 |.ret h v=>M1 P f B (h,v) s
 |.stop c h K td md=>s=c.st h K td md/\c.bf=f/\c.cs.drop c.e=B
def Good(P:Program)(W:World->Prop)(s:n7)(f:Option FuncId)(B:List AF)(l:List Rt):Prop:=∀w0,W w0->∀(cs0:List Frame) (m:Machine),EG w0 cs0 s m->∃r∈l,∃s',MV P f B r s'/\∃m',Steps P m m'/\EG w0 cs0 s' m'
def Ts(P:Program)(W:World->Prop)(s:n7)(f:Option FuncId)(B:List AF)(l:List (HS×AV)):Prop:=∀w0,W w0->∀(cs0:List Frame) (m:Machine),EG w0 cs0 s m->∃q∈l,∃s',M1 P f B q s'/\∃m',Steps P m m'/\EG w0 cs0 s' m'
def T5(s t:n7):Prop:=∀(w0:World) (cs0:List Frame) (m:Machine),EG w0 cs0 s m->EG w0 cs0 t m
def vp(P:Program)(W:World->Prop)(ih:pS):Prop:=∀c h K td md l,ih c h K td md=some l->Good P W (c.st h K td md) c.bf (c.cs.drop c.e) l
def fns(s:n7):List FuncId:=s.fr.fn::s.cs.map (·.fn)
def I4(S:n7):fD->Prop
 |.one s=>s.cs.drop 1=S.cs.drop 1/\(S.fr.kind≠ .deferred->s.cs=S.cs)/\fns s=fns S
 |.push s=>s.cs.drop 1=S.cs/\(fns s).drop 1=fns S
 |.pop s=>(∃x,S.cs=x::s.cs)/\(fns S).drop 1=fns s
 |.many l=>∀s∈l,s.cs=S.cs/\s.fr.fn=S.fr.fn
 |_=>True
section
variable {P:Program}{S S':n7}{r:fD}
theorem I4.of(h:I4 S' r)(e1:S'.cs=S.cs)(e2:S'.fr.kind=S.fr.kind)(e3:S'.fr.fn=S.fr.fn):I4 S r:=by
 cases r<;>simp only[I4,fns,e1,e2,e3]at h ⊢ <;>exact h
theorem iJ{x:Option fD}{why:String}(hx:∀y,x=some y->I4 S y):I4 S (jx why x):=by
 cases x with
 |none=>trivial
 |some y=>exact hx y rfl
theorem jK{A A':AF}{v:AV}(h:bT A v=some A'):A'.fn=A.fn:=by
 unfold bT at h;split at h
 . simp only[ab]at h;obtain⟨_,_,rfl⟩:=h;rfl
 . simp only[ab]at h;obtain⟨_,_,rfl⟩:=h;rfl
 . cases h;rfl
 . cases h
theorem Gb{A:AF}{l:List (AV×Bool)}:(wk A l).fn=A.fn:=by unfold wk;split<;>rfl
theorem Mc{α β:Type}{f:α->Option β}:∀{l:List α} {ls:List β} {y:β},l.mapM f=some ls->y∈ls->∃x∈l,f x=some y:=by
 intro l
 induction l with
 |nil=>intro ls y e h;simp at e;subst e;cases h
 |cons a l ih=>
  intro ls y e h
  simp only[List.mapM_cons,Option.bind_eq_bind,aa,Option.pure_def,af]at e
  obtain⟨b,h1,sD,h2,rfl⟩:=e
  rcases aB.1 h with rfl|h
  . exact⟨a,aq ..,h1⟩
  . obtain⟨x,h3,h4⟩:=ih h2 h
    exact⟨x,ax _ h3,h4⟩
theorem dL{fr:AF}{h:HS}(e:fr.fn=S.fr.fn):I4 S (.one ⟨h,fr,S.cs⟩):=⟨rfl,fun _=>rfl,by simp only[fns,e]⟩
theorem mJ{f:AF->n7}{v:AV}(hf:∀fr,(f fr).cs=S.cs)(hg:∀fr,fr.fn=S.fr.fn->(f fr).fr.fn=S.fr.fn):I4 S (jx "finish" ((bT S.fr v).map fun fr=>.one (f fr))):=iJ fun y hy=>by
 simp only[ab]at hy;obtain⟨fr,h1,rfl⟩:=hy;exact⟨by rw[hf],fun _=>hf fr,by simp only[fns,hf,hg fr (jK h1)]⟩
theorem MD(r:AR):I4 S (hZ P S r):=by
 cases r with
 |val v=>exact mJ (fun _=>rfl) fun _ e=>e
 |new x mk=>exact mJ (fun _=>rfl) fun _ e=>e
 |jk v h=>exact mJ (fun _=>rfl) fun _ e=>e
 |many l=>
  refine iJ fun y hy=>?_
  simp only[ab]at hy
  obtain⟨ls,h1,rfl⟩:=hy
  intro s hs
  obtain⟨x,_,h2⟩:=Mc h1 hs
  simp only[ab]at h2
  obtain⟨fr,h3,rfl⟩:=h2
  exact⟨rfl,jK h3⟩
 |enter f args=>
  unfold hZ
  simp only
  split
  . exact mJ (fun _=>rfl) fun _ e=>e
  . refine iJ fun y hy=>?_
    simp only[ab]at hy
    obtain⟨fr,_,rfl⟩:=hy
    exact⟨rfl,rfl⟩
 |round o args=>
  refine iJ fun y hy=>?_
  simp only[aa]at hy
  obtain⟨x,_,hy⟩:=hy
  split at hy
  . simp only[ab]at hy
    obtain⟨fr,_,rfl⟩:=hy
    exact⟨rfl,rfl⟩
  . cases hy
 |defer d=>
  unfold hZ
  split
  . rename_i heq;cases heq
  all_goals first|trivial|skip
  all_goals try(rename_i heq;cases heq)
  split
  . exact mJ (fun _=>rfl) fun _ e=>e
  . trivial
 |panic v=>exact dL Gb
 |recover=>
  unfold hZ
  simp only
  split
  . rename_i hk hc
    split
    . refine iJ fun y hy=>?_
      simp only[ab]at hy
      obtain⟨fr,h1,rfl⟩:=hy
      exact⟨by rw[hc];rfl,fun hn=>absurd hk hn,by simp only[fns,hc,jK h1,aF]⟩
    . exact mJ (fun _=>rfl) fun _ e=>e
  . exact mJ (fun _=>rfl) fun _ e=>e
  . trivial
theorem AK{ops:Array Oper}{i:Nat}{mx:Oper->Tr AV}:I4 S (pr P S ops i mx):=by
 unfold pr;split
 . trivial
 . split
   . trivial
   . exact mJ (fun _=>rfl) fun _ e=>e
   . split
     . exact MD _
     . trivial
theorem rR{j:Option Code}:I4 S (kq S j):=by
 unfold kq;split
 . split<;>first|exact dL rfl|trivial
 . refine iJ fun y hy=>?_
   simp only[aa]at hy;obtain⟨x,_,hy⟩:=hy;split at hy
   . rename_i hc _;simp only[ab]at hy;obtain⟨A,h1,rfl⟩:=hy;exact⟨⟨_,hc⟩,by simp only[fns,hc,jK h1,aF,List.drop_succ_cons,List.drop_zero]⟩
   . cases hy
theorem PM{c:Code}{k:List AI}:I4 S (j0 P S c k):=by
 cases c with
 |skip=>exact dL rfl
 |label l=>exact dL rfl
 |ret=>show I4 S (kq S (some .ret));exact rR
 |seq a b=>exact dL rfl
 |cond x a b=>unfold j0;simp only;split<;>first|exact dL rfl|trivial
 |block id b=>exact dL rfl
 |loop b=>exact dL rfl
 |scope b=>exact dL rfl
 |exit id=>unfold j0;simp only;split<;>first|exact dL rfl|exact rR
 |goto l=>unfold j0;simp only;split<;>first|exact dL rfl|exact rR
 |region id ops dr=>cases dr with
  |false=>exact dL rfl
  |true=>unfold j0;simp only;split<;>first|exact dL rfl|trivial
 |rangeFunc f ps fm body=>
  refine iJ fun y hy=>?_
  simp only[aa]at hy
  obtain⟨q,_,v,_,hy⟩:=hy
  split at hy
  . split at hy
    . simp only[ab]at hy
      obtain⟨A,_,rfl⟩:=hy
      exact⟨rfl,rfl⟩
    . cases hy
  . cases hy
 |refuse w=>trivial
theorem Gq:I4 S (fe P S):=by
 unfold fe;split
 . unfold mB;split
   . exact rR
   . exact PM
   . exact dL rfl
   . exact dL rfl
   . exact dL rfl
   . exact dL rfl
   . exact AK
   . unfold nD;split
     . trivial
     . split
       . trivial
       . split
         . exact dL rfl
         . exact(AK (P:=P)).of rfl rfl rfl
   . trivial
   . refine iJ fun y hy=>?_
     simp only[aa]at hy;obtain⟨x,_,hy⟩:=hy;split at hy
     . split at hy
       . cases hy
       . cases hy;exact dL rfl
     . cases hy
   . refine iJ fun y hy=>?_
     simp only[aa]at hy;obtain⟨o,_,x,_,hy⟩:=hy;split at hy
     . cases hy;exact dL rfl
     . cases hy
 . unfold sb;split
   . refine iJ fun y hy=>?_
     simp only[aa]at hy;obtain⟨x,_,hy⟩:=hy;split at hy
     . cases hy;exact dL rfl
     . cases hy
   . split
     . split
       . refine iJ fun y hy=>?_
         simp only[ab]at hy;obtain⟨A,_,rfl⟩:=hy;exact⟨rfl,rfl⟩
       . trivial
     . trivial
   . split
     . trivial
     . split
       . rename_i hc _;exact⟨⟨_,hc⟩,by simp only[fns,hc,Gb,aF,List.drop_succ_cons,List.drop_zero]⟩
       . trivial
     . split
       . trivial
       . rename_i hc;refine iJ fun y hy=>?_
         simp only[aa]at hy;obtain⟨fn,_,vs,_,hy⟩:=hy;split at hy
         . simp only[ab]at hy;obtain⟨A,h1,rfl⟩:=hy;exact⟨⟨_,hc⟩,by simp only[fns,hc,jK h1,aF,List.drop_succ_cons,List.drop_zero]⟩
         . cases hy;exact⟨⟨_,hc⟩,by simp only[fns,hc,aF,List.drop_succ_cons,List.drop_zero]⟩
         . cases hy
end
section
variable {P:Program}{W:World->Prop}{ih:pS}{c:Cx}{h:HS}{K:Tr AV}{td:List AI}{md:AM}{l:List Rt}{lv:List (HS×AV)}{s s':n7}{B:List AF}{f:Option FuncId}
theorem bV{α β:Type}{x:Option α}{f:α->Option β}{r:β}(e:km x f=some r):∃a,x=some a/\f a=some r:=by
 cases x with
 |none=>cases e
 |some a=>exact⟨a,rfl,e⟩
theorem la{α β γ:Type}{f:α->β->Option γ}{x:Option α}{y:Option β}{r:γ}(e:vr f x y=some r):∃a b,x=some a/\y=some b/\f a b=some r:=by
 cases x with
 |none=>cases e
 |some a=>
  cases y with
  |none=>cases e
  |some b=>exact⟨a,b,rfl,rfl,e⟩
theorem dz{a b:Bool}(h:iO a b=true):a=true/\b=true:=by cases a<;>cases b<;>first|exact⟨rfl,rfl⟩|cases h
theorem cn(hX:∀w0,W w0->fj P w0)(e:fe P s=.one s'\/fe P s=.push s'\/fe P s=.pop s')(g:Good P W s' f B l):Good P W s f B l:=by
 intro w0 hw cs0 m hS;have hst:=AZ (P:=P) (hX w0 hw) hS;have:∃m',Steps P m m'/\EG w0 cs0 s' m':=by
  rcases e with e|e|e<;>(rw[e]at hst;exact hst)
 obtain⟨m',t1,t2⟩:=this;obtain⟨q,h1,s2,h0,m2,h2,h3⟩:=g w0 hw cs0 m' t2;exact⟨q,h1,s2,h0,m2,t1.trans h2,h3⟩
theorem nJ{r:Rt}(hr:MV P f B r s)(hq:r∈l):Good P W s f B l:=fun _ _ _ m hS=>⟨r,hq,s,hr,m,Steps.refl P _,hS⟩
theorem zE{L:List Rt}{B':List AF}{f':Option FuncId}(a:Ts P W s f' B' lv)(b:∀q∈lv,∀s',M1 P f' B' q s'->Good P W s' f B L):Good P W s f B L:=by
 intro w0 hw cs0 m hS;obtain⟨q,h1,s1,h0,m1,h2,h3⟩:=a w0 hw cs0 m hS;obtain⟨q2,h4,s2,h5,m2,h6,h7⟩:=b q h1 s1 h0 w0 hw cs0 m1 h3;exact⟨q2,h4,s2,h5,m2,h2.trans h6,h7⟩
theorem Fv(a:T5 s s')(b:Good P W s' f B l):Good P W s f B l:=fun w0 hw cs0 m hS=>b w0 hw cs0 m (a w0 cs0 m hS)
theorem Kj:∀{l:List Rt} {lv:List (HS×AV)},SJ l=some lv->∀r∈l,∃q∈lv,r=.ret q.1 q.2
 |[],_,_,_,hr=>by cases hr
 |.ret h v::l,lv,e,r,hr=>by
  obtain⟨l1,h1,h2⟩:=bV (show km (SJ l) (fun l=>some ((h,v)::l))=some lv from e);cases h2;rcases aB.1 hr with rfl|hr
  . exact⟨(h,v),aq ..,rfl⟩
  . obtain⟨q,h3,h4⟩:=Kj h1 r hr;exact⟨q,ax _ h3,h4⟩
 |.stop .. ::l,_,e,_,_=>by cases e
theorem Fw(g:Good P W s f B l)(e:∀r∈l,∃q∈lv,r=.ret q.1 q.2):Ts P W s f B lv:=by
 intro w0 hw cs0 m hS;obtain⟨r,h1,s1,h0,m1,h2,h3⟩:=g w0 hw cs0 m hS;obtain⟨q,h4,rfl⟩:=e r h1;exact⟨q,h4,s1,h0,m1,h2,h3⟩
theorem pW{α:Type}{g:α->cm}:∀{ss:List α} {L:List (HS×AV)},Lk g ss=some L->∀s∈ss,∃l,g s=some l/\∀r∈l,∃q∈L,r=.ret q.1 q.2
 |[],_,_,_,hs=>by cases hs
 |a::ss,L,e,s,hs=>by
  obtain⟨l1,l2,h1,h2,h3⟩:=la (show vr (fun a b=>some (a++b)) (km (g a) SJ) (Lk g ss)=some L from e);cases h3;rcases aB.1 hs with rfl|hs
  . obtain⟨l,h4,h5⟩:=bV h1;exact⟨l,h4,fun r hr=>let⟨q,h6,h7⟩:=Kj h5 r hr;⟨q,aQ _ h6,h7⟩⟩
  . obtain⟨l,h4,h5⟩:=pW h2 s hs;exact⟨l,h4,fun r hr=>let⟨q,h6,h7⟩:=h5 r hr;⟨q,aY _ h6,h7⟩⟩
theorem EZ:∀{l:List (HS×AV)} {q:HS×AV},q∈l->Rt.ret q.1 q.2∈Wb l
 |[],_,h=>by cases h
 |a::l,q,h=>by
  rcases aB.1 h with rfl|h
  . exact aq ..
  . exact ax _ (EZ h)
theorem UA{u w:Value}(h:X2 u w=true):NP u w=true:=by
 have hk:∀{k l:IntKind},Nat.beq (nf k) (nf l)=true->k=l:=fun{k l} e=>by cases k<;>cases l<;>first|rfl|cases e
 cases u with
 |int k i=>
  cases w with
  |int l j=>
   obtain⟨h1,h2⟩:=dz (show iO (Nat.beq (nf k) (nf l)) (Yy i j)=true from h)
   cases hk h1
   have hij:i=j:=by
    cases i<;>cases j<;>first|cases h2|skip;have h2:Nat.beq _ _=true:=h2;rw[ah h2]
   simp[NP,hij]
  |_=>cases h
 |bool a=>
  cases w with
  |bool b=>
   have h:VY a b=true:=h
   cases a<;>cases b<;>first|rfl|cases h
  |_=>cases h
 |pointer a=>
  cases w with
  |pointer b=>
   obtain⟨h1,h2⟩:=dz (show iO (tg a) (tg b)=true from h)
   cases a with
   |some _=>cases h1
   |none=>cases b with
    |some _=>cases h2
    |none=>simp[NP]
  |_=>obtain⟨_,h2⟩:=dz (show iO (tg a) false=true from h);cases h2
 |slice a n c=>
  cases w with
  |slice b m d=>
   obtain⟨h1,h2⟩:=dz (show iO (tg a) (iO (tg b) (iO (Nat.beq n m) (Nat.beq c d)))=true from h)
   obtain⟨h2,h3⟩:=dz h2
   obtain⟨h3,h4⟩:=dz h3
   cases a with
   |some _=>cases h1
   |none=>cases b with
    |some _=>cases h2
    |none=>simp only[NP,h3,h4,Bool.and_self]
  |_=>obtain⟨_,h2⟩:=dz (show iO (tg a) false=true from h);cases h2
 |map a=>
  cases w with
  |map b=>
   obtain⟨h1,h2⟩:=dz (show iO (tg a) (tg b)=true from h)
   cases a with
   |some _=>cases h1
   |none=>cases b with
    |some _=>cases h2
    |none=>rfl
  |_=>obtain⟨_,h2⟩:=dz (show iO (tg a) false=true from h);cases h2
 |nilFunc=>cases w<;>first|rfl|cases h
 |nilIface=>cases w<;>first|rfl|cases h
 |_=>cases h
mutual
theorem Hp:∀{x y:AV},Fg x y=true->jq x y=true
 |.p u,y,h=>by
  cases y with
  |p w=>simp only[jq];exact UA (show X2 u w=true from h)
  |_=>cases h
 |.ptr o f,y,h=>by
  cases y with
  |ptr p g=>
   obtain⟨h1,h2⟩:=dz (show iO (Nat.beq o p) (Nat.beq f g)=true from h)
   simp only[jq,h1,h2,Bool.and_self]
  |_=>cases h
 |.sl o f n c z,y,h=>by
  cases y with
  |sl p g m d w=>
   obtain⟨h1,h2⟩:=dz (show iO (Nat.beq o p) (iO (Nat.beq f g) (iO (Nat.beq n m) (iO (XP c d) (Nat.beq z w))))=true from h)
   obtain⟨h2,h3⟩:=dz h2
   obtain⟨h3,h4⟩:=dz h3
   obtain⟨h4,h5⟩:=dz h4
   simp only[jq,h1,h2,h3,h4,h5,Bool.and_self]
  |_=>cases h
 |.agg l,y,h=>by
  cases y with
  |agg m=>simp only[jq];exact C9 h
  |_=>cases h
 |.dv l,y,h=>by
  cases y with
  |dv m=>simp only[jq];exact C9 (show Fg (.agg l) (.agg m)=true from h)
  |_=>cases h
 |.mp o,y,h=>by
  cases y with
  |mp p=>simp only[jq];exact h
  |_=>cases h
 |.fn _ _ _,_,h=>by cases h
 |.yl _,_,h=>by cases h
 |.oV _ _,_,h=>by cases h
theorem C9:∀{l m:List AV},Fg (.agg l) (.agg m)=true->vG l m=true
 |[],[],_=>by simp only[vG]
 |[],_::_,h=>by cases h
 |_::_,[],h=>by cases h
 |x::l,y::m,h=>by
  obtain⟨h1,h2⟩:=dz (show iO (Fg x y) (Fg (.agg l) (.agg m))=true from h);simp only[vG,Hp h1,C9 h2,Bool.and_self]
end
theorem Da{x y:AV}(h:Fg x y=true):x=y:=oE (Hp h)
theorem FU:∀{l m:List AV},J7 l m=true->l=m
 |[],[],_=>rfl
 |[],_::_,h=>by cases h
 |_::_,[],h=>by cases h
 |x::l,y::m,h=>by
  obtain⟨h1,h2⟩:=dz (show iO (Fg x y) (J7 l m)=true from h);rw[Da h1,FU h2]
theorem Fe:∀{l m:List (AV×AV×Nat)},Jz l m=true->l=m
 |[],[],_=>rfl
 |[],_::_,h=>by cases h
 |_::_,[],h=>by cases h
 |(k,v,n)::l,(k',v',n')::m,h=>by
  obtain⟨h1,h2⟩:=dz (show iO (iO (Fg k k') (iO (Fg v v') (Nat.beq n n'))) (Jz l m)=true from h);obtain⟨h3,h4⟩:=dz h1;obtain⟨h5,h6⟩:=dz h4;rw[Da h3,Da h5,ah h6,Fe h2]
theorem Uv{x y:AO}(h:X1 x y=true):x=y:=by
 cases x with
 |cells l T=>
  cases y with
  |cells m U=>
   obtain⟨h1,h2⟩:=dz (show iO (J7 l m) (Nat.beq T U)=true from h)
   rw[FU h1,ah h2]
  |_=>cases h
 |map es c=>
  cases y with
  |map fs d=>
   obtain⟨h1,h2⟩:=dz (show iO (Jz es fs) (Nat.beq c d)=true from h)
   rw[Fe h1,ah h2]
  |_=>cases h
 |_=>cases h
theorem SG{x y:Option AO}(h:Vw x y=true):x=y:=by
 cases x with
 |none=>cases h
 |some a=>
  cases y with
  |none=>cases h
  |some b=>rw[Uv (show X1 a b=true from h)]
theorem Ay(H:Tr AO)(o:Nat):∀ids:List Nat,(xQ ids H).get o=H.get o\/(xQ ids H).get o=none
 |[]=>.inr (get_nil o)
 |i::ids=>by
  show((xQ ids H).put i (H.get i)).get o=_\/((xQ ids H).put i (H.get i)).get o=_;by_cases hi:o=i
  . subst hi;rw[mz];exact .inl rfl
  . rw[da _ _ hi];exact Ay H o ids
theorem Cw(H:Tr AO)(o:Nat):∀ids:List Nat,o ∉ ids->(xQ ids H).get o=none
 |[],_=>get_nil o
 |i::ids,hn=>by
  show((xQ ids H).put i (H.get i)).get o=none;rw[da _ _ fun e=>hn (by rw[e];exact aq ..)];exact Cw H o ids fun hm=>hn (ax _ hm)
theorem Fy{H G:Tr AO}:∀{ids:List Nat},JR ids H G=true->∀o∈ids,H.get o=G.get o
 |[],_,_,ho=>by cases ho
 |i::ids,h,o,ho=>by
  obtain⟨h1,h2⟩:=dz (show iO (Vw (H.get i) (G.get i)) (JR ids H G)=true from h);rcases aB.1 ho with rfl|ho
  . exact SG h1
  . exact Fy h2 o ho
theorem J6(a b:Nat):a<=HP a b/\b<=HP a b:=by
 unfold HP
 cases h:Nat.ble a b with
 |true=>exact⟨aj h,Nat.le_refl _⟩
 |false=>
  refine⟨Nat.le_refl _,?_⟩
  rcases Nat.le_total a b with k|k
  . rw[Nat.ble_eq_true_of_le k]at h;cases h
  . exact k
theorem FP:∀{l:List (HS×AV)} {q:HS×AV},q∈l->q.1.nx<=FO l
 |[],_,h=>by cases h
 |a::l,q,h=>by
  have:=J6 a.1.nx (FO l);rcases aB.1 h with rfl|h
  . exact this.1
  . exact Nat.le_trans (FP h) this.2
theorem ET{ids:List Nat}{q:HS×AV}:∀{l:List (HS×AV)},allEq ids q l=true->∀p∈l,p.2=q.2/\∀o∈ids,p.1.H.get o=q.1.H.get o
 |[],_,_,hp=>by cases hp
 |a::l,h,p,hp=>by
  obtain⟨h1,h2⟩:=dz (show iO (Fg a.2 q.2) (iO (JR ids a.1.H q.1.H) (allEq ids q l))=true from h);obtain⟨h2,h3⟩:=dz h2;rcases aB.1 hp with rfl|hp
  . exact⟨Da h1,Fy h2⟩
  . exact ET h3 p hp
theorem E5{h h':HS}{A:AF}{cs:List AF}(hH:∀o,h'.H.get o=h.H.get o\/h'.H.get o=none)(nx:h.nx<=h'.nx):T5 ⟨h,A,cs⟩ ⟨h',A,cs⟩:=by
 intro w0 cs0 m ⟨ρ,fr,cs,w,u,us,hm,H,hf,hcs,hF⟩;refine⟨ρ,fr,cs,w,u,us,hm,?_,hf,hcs,⟨hF.1,fun q hq=>⟨(hF.2 q hq).1,Nat.lt_of_lt_of_le (hF.2 q hq).2 nx⟩⟩⟩;exact H.less hH nx
theorem FC{q:HS×AV}(hq:q∈lv)(hr:M1 P f B q s):∃q'∈FB B lv,∃s',M1 P f B q' s'/\T5 s s':=by
 cases B with
 |nil=>exact⟨q,hq,s,hr,fun _ _ _ h=>h⟩
 |cons A cs=>
  have self:∃q'∈lv,∃s',M1 P f (A::cs) q' s'/\T5 s s':=⟨q,hq,s,hr,fun _ _ _ h=>h⟩
  show ∃q'∈JT (Dq cs) lv,∃s',M1 P f (A::cs) q' s'/\T5 s s'
  cases lv with
  |nil=>cases hq
  |cons q0 l=>
   have hl:JT (Dq cs) (q0::l)=q0::l\/JT (Dq cs) (q0::l)=Vu (q0::l) q0 (Oe q0.1.nx (Dq cs)):=by
    cases l with
    |nil=>exact .inl rfl
    |cons _ _=>exact .inr rfl
   rcases hl with hl|hl
   . rw[hl];exact self
   rw[hl]
   generalize Oe q0.1.nx (Dq cs)=J
   induction J with
   |nil=>exact self
   |cons ids J ih=>
    show ∃q'∈Bool.rec (motive:=fun _=>List (HS×AV)) (Vu (q0::l) q0 J) [(⟨xQ ids q0.1.H,FO (q0::l)⟩,q0.2)] (allEq ids q0 (q0::l)),∃s',M1 P f (A::cs) q' s'/\T5 s s'
    cases he:allEq ids q0 (q0::l)with
    |false=>exact ih
    |true=>
     obtain⟨h1,h2⟩:=ET he q hq
     obtain⟨A',h3,rfl⟩:=hr
     rw[h1]at h3
     refine⟨_,aq ..,⟨⟨xQ ids q0.1.H,FO (q0::l)⟩,A',cs⟩,⟨A',h3,rfl⟩,E5 (fun o=>?_) (FP hq)⟩
     by_cases ho:o∈ids
     . rcases Ay q0.1.H o ids with k|k
       . exact .inl (k.trans (h2 o ho).symm)
       . exact .inr k
     . exact .inr (Cw _ o ids ho)
theorem uz(n:Nat)(g:Nat->cm):zC n g=g n:=by cases n<;>rfl
theorem JN{α:Type}(n:List α)(g:List α->cm):N7 n g=g n:=by cases n<;>rfl
theorem RU(n:Option Nat)(g:Option Nat->cm):UL n g=g n:=by cases n<;>rfl
theorem RY(n:Tr AV)(g:Tr AV->cm):UM n g=g n:=by cases n<;>rfl
theorem N9(n:Tr AO)(g:Tr AO->cm):N8 n g=g n:=by cases n<;>rfl
theorem RT(n:CallKind)(g:CallKind->cm):UK n g=g n:=by cases n<;>rfl
theorem RR(n:HS)(g:HS->cm):UJ n g=g n:=by
 obtain⟨H,nx⟩:=n;show zC nx (fun nx=>N8 H fun H=>g ⟨H,nx⟩)=g ⟨H,nx⟩;rw[uz,N9]
theorem Ng(ih:pS)(e:Nat)(s:n7):pX ih e s=ih ⟨e,s.cs,s.fr.fn,s.fr.n,s.fr.ds,s.fr.kind,s.fr.rd⟩ s.h s.fr.K s.fr.todo s.fr.mode:=by
 obtain⟨h,⟨fn,n,K,td,ds,md,kind,rd⟩,cs⟩:=s;show N7 cs (fun cs=>UJ h fun h=>zC fn fun fn=>zC n fun n=>N7 ds fun ds=>UK kind fun kind=>UL rd fun rd=>UM K fun K=>ih ⟨e,cs,fn,n,ds,kind,rd⟩ h K td md)=_;rw[JN,RR,uz,uz,JN,RT,RU,RY]
theorem tS(H:vp P W ih){e:Nat}(g:pX ih e s=some l):Good P W s ((fns s)[e]?) (s.cs.drop e) l:=by
 rw[Ng]at g;exact H _ _ _ _ _ _ g
theorem AJ{d:Option Nat}{v:AV}(g:nT ih c h K td d v=some l):∃K',jT K c.n d v=some K'/\ih c h K' td .run=some l:=by
 cases d with
 |none=>exact⟨K,rfl,g⟩
 |some d=>
  have g:Bool.rec (motive:=fun _=>cm) none (ih c h (BJ (xl d) (some v) K) td .run) (Nat.ble (d+1) c.n)=some l:=g
  cases hb:Nat.ble (d+1) c.n with
  |false=>rw[hb]at g;cases g
  |true=>
   rw[hb]at g
   exact⟨K.put d (some v),by simp only[jT,hb],g⟩
theorem Iv(H:vp P W ih){d:Option Nat}{v:AV}(g:nT ih c h K td d v=some l):∃K',jT K c.n d v=some K'/\Good P W (c.st h K' td .run) c.bf (c.cs.drop c.e) l:=by
 obtain⟨K',h1,h2⟩:=AJ g;exact⟨K',h1,H _ _ _ _ _ _ h2⟩
theorem Di(ops:Array Oper)(c:Nat):∀l:List (Nat×Fl),Bz ops c l=l.filter fun q=>!D.mS ops q.1 c
 |[]=>rfl
 |q::l=>by
  show Bool.rec (motive:=fun _=>List (Nat×Fl)) (q::Bz ops c l) (Bz ops c l) (D.mS ops q.1 c)=_;rw[List.filter_cons,Di ops c l];cases D.mS ops q.1 c<;>rfl
theorem Fk{A:AF}{e:Nat}{cs:List AF}{v:AV}{z:cm}(g:zx A ih e cs h v z=some l):
 z=some l\/∃A',bT A v=some A'/\A'.mode=.run/\ih ⟨e,cs,A'.fn,A'.n,A'.ds,A'.kind,A'.rd⟩ h A'.K A'.todo .run=some l:=by
 obtain⟨fn,n,K2,td2,ds,md2,kind,rd⟩:=A
 cases md2<;>first|exact .inl g|skip
 cases td2 with
 |nil=>exact .inl g
 |cons x k2=>
  cases x<;>first|exact .inl g|skip
  . rename_i ops l2
    cases l2 with
    |nil=>exact .inl g
    |cons i l2=>
     obtain⟨K',e1,e2⟩:=AJ (show nT ih ⟨e,cs,fn,n,ds,kind,rd⟩ h K2 (.ops ops l2::k2) (Fa ops i) v=some l from g)
     have e1:jT K2 n (lH ops i) v=some K':=e1
     exact .inr ⟨⟨fn,n,K',.ops ops l2::k2,ds,.run,kind,rd⟩,by simp only[bT,e1,ak],rfl,e2⟩
  . rename_i ops K0 l2 pe
    cases l2 with
    |nil=>exact .inl g
    |cons i l2=>
     obtain⟨K',e1,e2⟩:=AJ (show nT ih ⟨e,cs,fn,n,ds,kind,rd⟩ h K2 (.nF ops K0 l2 (Bz ops i pe)::k2) (Fa ops i) v=some l from g)
     have e1:jT K2 n (lH ops i) v=some K':=e1
     exact .inr ⟨⟨fn,n,K',.nF ops K0 l2 (Bz ops i pe)::k2,ds,.run,kind,rd⟩,by simp only[bT,e1,ak,Di],rfl,e2⟩
  . rename_i o
    exact .inr ⟨⟨fn,n,K2,.er o::k2,ds,.run,kind,rd⟩,rfl,rfl,g⟩
theorem Hz(H:vp P W ih){A:AF}{e:Nat}{cs:List AF}{v:AV}{z:cm}(g:zx A ih e cs h v z=some l):
 z=some l\/∃A',bT A v=some A'/\Good P W ⟨h,A',cs⟩ ((A.fn::cs.map (·.fn))[e]?) (cs.drop e) l:=by
 rcases Fk g with g|⟨A',h1,h2,h3⟩
 . exact .inl g
 . have:=H _ _ _ _ _ _ h3
   have e:=jK h1
   obtain⟨fn,n,K2,td2,ds,md2,kind,rd⟩:=A'
   have h2:md2=.run:=h2
   have e:fn=A.fn:=e
   subst h2
   rw[<- e]
   exact .inr ⟨_,h1,this⟩
theorem Jw(H:vp P W ih):∀(e:Nat) (fn:FuncId) (cs:List AF) (ss:List (HS×AV)) (L:List Rt),Jv ih e cs ss=some L->∀q∈ss,∀s,M1 P (some fn) cs q s->Good P W s ((fn::cs.map (·.fn))[e]?) (cs.drop e) L
 |0,fn,cs,ss,L,g,q,hq,s,hr=>by cases g;exact nJ (r:=.ret q.1 q.2) hr (EZ hq)
 |e+1,fn,[],ss,L,g,q,hq,s,hr=>by cases g
 |e+1,fn,A::cs,ss,L,g,q,hq,s,hr=>by
  have g:Option.rec (motive:=fun _=>cm) (km (Lk (fun q=>zx A ih 0 cs q.1 q.2 none) ss) fun l=>Jv ih e cs (FB cs l)) (fun q=>zx A ih e cs q.1 q.2 none) (one? ss)=some L:=g;obtain⟨A',hA,rfl⟩:=hr
  cases h1:one? ss with
  |none=>
   rw[h1]at g
   obtain⟨ls,e1,e2⟩:=bV g
   obtain⟨l1,h2,h3⟩:=pW e1 q hq
   rcases Hz H h2 with h2|⟨A2,h4,h5⟩
   . cases h2
   . rw[hA]at h4;cases h4
     refine zE (Fw h5 h3) fun q2 hq2 s2 hr2=>?_
     obtain⟨t,h6,s3,h7,h8⟩:=FC hq2 hr2
     exact Fv h8 (Jw H e A.fn cs _ _ e2 t h6 s3 h7)
  |some q1=>
   rw[h1]at g
   unfold one? at h1
   split at h1
   . cases h1
     rcases aB.1 hq with rfl|hq
     . rcases Hz H g with g|⟨A2,h4,h5⟩
       . cases g
       . rw[hA]at h4;cases h4;exact h5
     . cases hq
   . cases h1
theorem Rp{a b:List AF}(h:a.drop 1=b.drop 1)(e:Nat):a.drop (e+1)=b.drop (e+1):=by
 rw[Nat.add_comm,<- List.drop_drop,<- List.drop_drop,h]
theorem OP{k:CallKind}(h:Vl k=true):k=.normal:=by cases k<;>first|rfl|cases h
theorem iK(hX:∀w0,W w0->fj P w0)(H:vp P W ih)(g:cY P ih c h K td md=some l):Good P W (c.st h K td md) c.bf (c.cs.drop c.e) l:=by
 unfold cY at g;have hsh:=Gq (P:=P) (S:=c.st h K td md);have hst:Cx.rec (motive:=fun _=>n7) (fun _ cs fn n ds kind rd=>⟨h,⟨fn,n,K,td,ds,md,kind,rd⟩,cs⟩) c=c.st h K td md:=by cases c;rfl
 rw[hst]at g;cases hr:fe P (c.st h K td md)with
 |one s=>
  rw[hr]at g hsh
  refine cn hX (.inl hr) ?_
  have hf:fns s=c.fn::c.cs.map (·.fn):=hsh.2.2
  obtain⟨ee,cs,fn,n,ds,kind,rd⟩:=c
  cases ee with
  |zero=>
   have g:Bool.rec (motive:=fun _=>cm) none (pX ih 0 s) (Vl kind)=some l:=g
   cases hk:Vl kind with
   |false=>rw[hk]at g;cases g
   |true=>
    rw[hk]at g
    have:=tS H g
    have hc:s.cs=cs:=hsh.2.1 (by show kind≠ .deferred;rw[OP hk];intro h;cases h)
    rw[hc,hf]at this
    exact this
  |succ e=>
   have:=tS H (show pX ih (e+1) s=some l from g)
   have hd:s.cs.drop (e+1)=cs.drop (e+1):=Rp hsh.1 e
   rw[hd,hf]at this
   exact this
 |push s=>
  rw[hr]at g hsh
  refine cn hX (.inr (.inl hr)) ?_
  have:=tS H g
  have hd:s.cs.drop (c.e+1)=c.cs.drop c.e:=by
   have h1:s.cs.drop 1=c.cs:=hsh.1;rw[Nat.add_comm,<- List.drop_drop,h1]
  have hf:(fns s)[c.e+1]?=c.bf:=by
   have h1:(fns s).drop 1=c.fn::c.cs.map (·.fn):=hsh.2;unfold Cx.bf;rw[<- h1,List.getElem?_drop,Nat.add_comm]
  rw[hd,hf]at this
  exact this
 |pop s=>
  rw[hr]at g hsh
  refine cn hX (.inr (.inr hr)) ?_
  obtain⟨ee,cs,fn,n,ds,kind,rd⟩:=c
  cases ee with
  |zero=>cases g
  |succ e=>
   have:=tS H (show pX ih e s=some l from g)
   obtain⟨⟨x,hx⟩,hf⟩:=hsh
   have hx:cs=x::s.cs:=hx
   have hf:cs.map (·.fn)=fns s:=hf
   rw[<- hf]at this
   subst hx
   exact this
 |many ss=>
  rw[hr]at g hsh
  have g:Bool.rec (motive:=fun _=>cm) (km (Lk (pX ih 0) ss) fun l=>Jv ih c.e c.cs (FB c.cs l)) (some [.stop c h K td md]) (Og h.nx (Dq c.cs))=some l:=g
  cases hs:Og h.nx (Dq c.cs)with
  |true=>
   rw[hs]at g
   cases g
   exact nJ (r:=.stop c h K td md) ⟨rfl,rfl,rfl⟩ (aq ..)
  |false=>
  rw[hs]at g
  obtain⟨ls,e1,e2⟩:=bV g
  intro w0 hw cs0 m hS
  have hst:=AZ (P:=P) (hX w0 hw) hS
  rw[hr]at hst
  obtain⟨s1,hs1,m',t1,t2⟩:=hst
  obtain⟨l1,h2,h3⟩:=pW e1 s1 hs1
  have hc:s1.cs=c.cs:=(hsh s1 hs1).1
  have hf:s1.fr.fn=c.fn:=(hsh s1 hs1).2
  have g1:Good P W s1 c.bf (c.cs.drop c.e) l:=zE (Fw (tS H h2) h3) fun q hq s2 hr2=>by
   have hr2:M1 P (some s1.fr.fn) s1.cs q s2:=hr2;rw[hc,hf]at hr2;obtain⟨t,h4,s3,h5,h6⟩:=FC hq hr2;exact Fv h6 (Jw H _ c.fn _ _ _ e2 t h4 s3 h5)
  obtain⟨q,h4,s2,h5,m2,h6,h7⟩:=g1 w0 hw cs0 m' t2
  exact⟨q,h4,s2,h5,m2,t1.trans h6,h7⟩
 |fin=>rw[hr]at g;cases g
 |bad w=>rw[hr]at g;cases g
theorem ib(x:Operand)(K:Tr AV):rA x K=dE K x:=by cases x<;>rfl
theorem rD(k:IntKind)(n:Nat):uy k n=some (.p (.int k (.ofNat n))):=by cases n<;>rfl
theorem Dk(o f:Nat):LY o f=some (.ptr o f):=by cases f<;>rfl
theorem tU(b:Bool):yR b=some (.p (.bool b)):=by cases b<;>rfl
theorem Jj(b:Bool):Lv b=some (.p (.bool !b)):=by cases b<;>rfl
theorem pc{k:IntKind}{n:Nat}{v:AV}(e:nQ k n=some v):v=.p (.int k (k.wrap (n:Int))):=by
 have un:∀(k:IntKind) (m:Nat),k.signed=false->(2:Int) ^ k.bits=(m:Int)->V3 k m n=some v->v=.p (.int k (k.wrap (n:Int))):=fun k m h1 h2 e=>by
  unfold V3 at e;rw[rD]at e;cases e;simp only[IntKind.wrap,h1,Bool.false_and,h2];rfl
 have sg:∀(k:IntKind) (m:Nat),(2:Int) ^ (k.bits-1)=(m:Int)->(2:Int) ^ k.bits=2*(m:Int)->V2 k m n=some v->v=.p (.int k (k.wrap (n:Int))):=fun k m h1 h2 e=>by
  unfold V2 at e
  cases hb:Nat.ble (n+1) m with
  |false=>rw[show Nat.ble (Nat.succ n) m=false from hb]at e;cases e
  |true=>
   rw[show Nat.ble (Nat.succ n) m=true from hb]at e
   have hlt:=aj hb
   have e:uy k n=some v:=e
   rw[rD]at e
   cases e
   have hm:(n:Int) % (2*(m:Int))=(n:Int):=Int.emod_eq_of_lt (by omega) (by omega)
   simp only[IntKind.wrap,h1,h2,hm]
   have hd:decide ((n:Int)≥(m:Int))=false:=decide_eq_false (by omega)
   rw[hd,Bool.and_false]
   rfl
 cases k
 . exact sg .i8 128 rfl rfl e
 . exact sg .i16 32768 rfl rfl e
 . exact sg .i32 2147483648 rfl rfl e
 . exact sg .i64 9223372036854775808 rfl rfl e
 . exact un .u8 256 rfl rfl e
 . exact un .u16 65536 rfl rfl e
 . exact un .u32 4294967296 rfl rfl e
 . exact un .u64 18446744073709551616 rfl rfl e
theorem MH{u:Value}{q:IntKind->Int->Option AV}{v:AV}(e:XH u q=some v):∃k i,u=.int k i/\q k i=some v:=by
 cases u<;>first|exact⟨_,_,rfl,e⟩|cases e
theorem toI_some{x:AV}{q:IntKind->Int->Option AV}{v:AV}(e:toI x q=some v):∃k i,x=.p (.int k i)/\q k i=some v:=by
 cases x with
 |p u=>obtain⟨k,i,rfl,h⟩:=MH (u:=u) e;exact⟨k,i,rfl,h⟩
 |_=>cases e
theorem rK{i:Int}{q:Nat->Option AV}{v:AV}(e:HW i q=some v):∃n:Nat,i=(n:Int)/\q n=some v:=by
 cases i with
 |ofNat n=>exact⟨n,rfl,e⟩
 |negSucc n=>cases e
theorem toB_some{x:AV}{q:Bool->Option AV}{v:AV}(e:toB x q=some v):∃b,x=.p (.bool b)/\q b=some v:=by
 cases x with
 |p u=>
  have e:XG u q=some v:=e
  cases u<;>first|exact⟨_,rfl,e⟩|cases e
 |_=>cases e
theorem toP_some{x:AV}{q:Nat->Nat->Option AV}{v:AV}(e:toP x q=some v):∃o f,x=.ptr o f/\q o f=some v:=by
 cases x<;>first|exact⟨_,_,rfl,e⟩|cases e
theorem toPH_some{x:AV}{q:Nat->Nat->Option HS}{v:HS}(e:toPH x q=some v):∃o f,x=.ptr o f/\q o f=some v:=by
 cases x<;>first|exact⟨_,_,rfl,e⟩|cases e
theorem toS_some{x:AV}{q:Nat->Nat->Nat->Option AV}{v:AV}(e:toS x q=some v):∃o f n c z,x=.sl o f n c z/\q o f n=some v:=by
 cases x<;>first|exact⟨_,_,_,_,_,rfl,e⟩|cases e
theorem toG_some{x:AV}{q:List AV->Option AV}{v:AV}(e:toG x q=some v):∃l,x=.agg l/\q l=some v:=by
 cases x<;>first|exact⟨_,rfl,e⟩|cases e
theorem toT_some{x:AV}{q:List AV->Option AV}{v:AV}(e:toT x q=some v):∃l,x=.dv l/\q l=some v:=by
 cases x<;>first|exact⟨_,rfl,e⟩|cases e
theorem DC:∀(l:List AV) (n:Nat),Su l n=l[n]?
 |[],_=>rfl
 |_::_,0=>rfl
 |_::l,n+1=>by rw[List.getElem?_cons_succ];exact DC l n
theorem zP{t:TypeId}{l:List AV}{f:Nat}{v:AV}(e:V1 (eA P t) l f=some v):uT P t l f=some v:=by
 unfold uT
 cases hq:eA P t with
 |none=>rw[hq]at e;cases e
 |some q=>
  rw[hq]at e
  obtain⟨b,s⟩:=q
  cases b with
  |true=>
   obtain⟨l',h1,h2⟩:=bV (show km (cX l f s) (fun l=>some (.agg l))=some v from e)
   cases h2
   simp only[ae,h1,ak]
  |false=>
   have e:Su l f=some v:=e
   rw[DC]at e
   simpa only[ae]using e
theorem TN{t:TypeId}{x v:AV}(e:XT (eA P t) h x=some v):zQ P h t x=some v:=by
 obtain⟨o,f,rfl,e⟩:=toP_some e;obtain⟨y,h1,h2⟩:=bV e;have h1:h.H.get o=some y:=h1
 cases y with
 |cells l T=>
  have h2:V1 (eA P t) l f=some v:=h2
  simp only[zQ,cellsOf,h1,ae]
  exact zP h2
 |_=>cases h2
theorem Vt{v:AV}(e:Yb v=true):ia v=[v]/\w8 v=true:=by
 cases v with
 |p u=>
  have e:YH u=true:=e
  cases u<;>first|exact⟨rfl,rfl⟩|cases e
 |agg l=>cases e
 |dv l=>cases e
 |_=>exact⟨rfl,rfl⟩
theorem Ku(v:AV):∀(l:List AV) (f:Nat) (l':List AV),S4 v l f=some l'->f<l.length/\l'=l.take f++[v]++l.drop (f+1)
 |[],_,_,e=>by cases e
 |x::l,0,l',e=>by cases e;exact⟨Nat.succ_pos _,rfl⟩
 |x::l,n+1,l',e=>by
  obtain⟨a,h1,h2⟩:=bV (show km (S4 v l n) (fun l=>some (x::l))=some l' from e);cases h2;obtain⟨h3,rfl⟩:=Ku v l n a h1;exact⟨Nat.succ_lt_succ h3,rfl⟩
theorem Xz{t:TypeId}{x v:AV}{h':HS}(e:Ym h (Tf P t) x v=some h'):A3 P h t x v=some (.jk fg h'):=by
 unfold Ym at e
 cases hz:Tf P t with
 |false=>rw[hz]at e;cases e
 |true=>
  rw[hz]at e
  cases hv:Yb v with
  |false=>rw[hv]at e;cases e
  |true=>
   rw[hv]at e
   obtain⟨o,f,rfl,e⟩:=toPH_some e
   obtain⟨y,h1,h2⟩:=bV e
   have h1:h.H.get o=some y:=h1
   cases y with
   |cells l T=>
    obtain⟨l',h3,h4⟩:=bV (show km (S4 v l f) (YK h o T)=some h' from h2)
    cases h4
    obtain⟨h5,rfl⟩:=Ku v l f l' h3
    obtain⟨k1,k2⟩:=Vt hv
    unfold Tf at hz
    cases hi:P.info? t with
    |none=>rw[hi]at hz;cases hz
    |some i=>
     rw[hi]at hz
     have hs:1=i.size:=ah hz
     have hb:Nat.ble (f+1) l.length=true:=Nat.ble_eq_true_of_le h5
     simp only[A3,cellsOf,h1,ae,hi,k1,bp,List.length_nil,<- hs,uq,List.all_cons,List.all_nil,k2,hb,Bool.and_true,ak]
     rfl
   |_=>cases h2
end
end Go.Proofs.YtjfkdglgecgjfaaGreat.R
namespace Go.Proofs.YtjfkdglgecgjfaaGreat.R
open Go.RowKit
section
variable {P:Program}{h:HS}{K:Tr AV}{o:Oper}{v:AV}
def EN(P:Program)(h:HS)(K:Tr AV)(o:Oper):RV->Prop
 |.val v=>vn P h K o=some (.val v)
 |.jk h'=>vn P h K o=some (.jk fg h')
 |.enter g a=>vn P h K o=some (.enter g a)/\xH g h a=none
 |.ext v g a=>vn P h K o=some (.enter g a)/\xH g h a=some v
 |.cY=>True
theorem nX{x:Option AV}(hx:∀v,x=some v->vn P h K o=some (.val v)):EN P h K o (vR x):=by
 cases x with
 |none=>trivial
 |some v=>exact hx v rfl
theorem XD{x:Option HS}(hx:∀v,x=some v->vn P h K o=some (.jk fg v)):EN P h K o (uR x):=by
 cases x with
 |none=>trivial
 |some v=>exact hx v rfl
theorem fX{r:AR}(e:gS P h K o=some r):vn P h K o=some r:=by unfold vn;rw[e]
theorem wg(e:gS P h K o=none):vn P h K o=Ap P K o:=by unfold vn;rw[e]
theorem JM(k:IntKind)(i:Int):Fo k i=some (.p (.int k i)):=by
 cases i with
 |ofNat n=>exact rD k n
 |negSucc n=>rfl
theorem OQ{k l:IntKind}(e:Nat.beq (nf k) (nf l)=true):k=l:=by
 cases k<;>cases l<;>first|rfl|cases e
theorem Jf(k:IntKind):G5 k=k.bits:=by cases k<;>rfl
theorem Qd(k:IntKind)(n:Nat):k.wrap ((n % 2 ^ k.bits:Nat):Int)=k.wrap (n:Int):=by
 have:(((n % 2 ^ k.bits:Nat):Int)) % (2 ^ k.bits:Int)=(n:Int) % (2 ^ k.bits:Int):=by
  rw[Int.natCast_emod];rw[show((2 ^ k.bits:Nat):Int)=(2:Int) ^ k.bits from by simp];exact Int.emod_emod_of_dvd _ (Int.dvd_refl _)
 simp only[IntKind.wrap,this]
theorem Je(a b:Nat):((a:Int) == (b:Int))=Nat.beq a b:=by
 rw[Bool.eq_iff_iff,beq_iff_eq];exact⟨fun e=>by rw[Int.ofNat.inj e];exact Nat.beq_refl b,fun e=>by rw[ah e]⟩
theorem Jg(a b:Nat):decide ((a:Int)<=(b:Int))=Nat.ble a b:=by
 rw[Bool.eq_iff_iff,decide_eq_true_iff];exact⟨fun e=>Nat.ble_eq_true_of_le (by omega),fun e=>by have:=aj e;omega⟩
theorem Jh(a b:Nat):decide ((a:Int)<(b:Int))=Nat.ble (a+1) b:=by
 rw[Bool.eq_iff_iff,decide_eq_true_iff];exact⟨fun e=>Nat.ble_eq_true_of_le (by omega),fun e=>by have:=aj e;omega⟩
theorem Kc(b:Nat):((2 ^ b:Nat):Int)=(2:Int) ^ b:=by simp
theorem CN(k:IntKind)(f:Nat->Nat->Nat)(a b:Nat)(hf:∀n,f (a % 2 ^ n) (b % 2 ^ n)=f a b % 2 ^ n):k.wrap ((f (a % 2 ^ k.bits) (b % 2 ^ k.bits):Nat):Int)=k.wrap ((f a b:Nat):Int):=by
 rw[hf,Qd]
theorem Vj{op:BinOp}{k:IntKind}{a b:Nat}(hs:Xy op=false)(e:zW op k a b=some v)(t:TypeId):
 ∃u,bU P (binOp op t (.int k a) (.int k b))=some u/\BS u=v:=by
 have ofn:∀n:Nat,BitVec.ofInt k.bits (n:Int)=BitVec.ofNat k.bits n:=fun n=>by simp
 cases op with
 |add=>
  have:=pc (show nQ k (a+b)=some v from e)
  exact⟨.int k (k.wrap ((a:Int)+b)),by simp[binOp,Op.intArith,pure,bU],by rw[this,Int.natCast_add];rfl⟩
 |sub=>
  have e:Bool.rec (motive:=fun _=>Option AV) none (nQ k (a-b)) (Nat.ble b a)=some v:=e
  cases hb:Nat.ble b a with
  |false=>rw[hb]at e;cases e
  |true=>
   rw[hb]at e
   have:=pc (show nQ k (a-b)=some v from e)
   exact⟨.int k (k.wrap ((a:Int)-b)),by simp[binOp,Op.intArith,pure,bU],by rw[this,Int.ofNat_sub (aj hb)];rfl⟩
 |mul=>
  have:=pc (show nQ k (a*b)=some v from e)
  exact⟨.int k (k.wrap ((a:Int)*b)),by simp[binOp,Op.intArith,pure,bU],by rw[this,Int.natCast_mul];rfl⟩
 |quo=>
  cases b with
  |zero=>cases e
  |succ b=>
   have:=pc (show nQ k (a/(b+1))=some v from e)
   have hne:¬ ((b:Int)+1=0):=by omega
   exact⟨.int k (k.wrap ((a:Int).tdiv ((b+1:Nat):Int))),by simp[binOp,Op.intDiv,pure,bU,hne],by rw[this];rfl⟩
 |rem=>
  cases b with
  |zero=>cases e
  |succ b=>
   have e:uy k (a % (b+1))=some v:=e
   rw[rD]at e
   cases e
   have hne:¬ ((b:Int)+1=0):=by omega
   exact⟨.int k ((a:Int).tmod ((b+1:Nat):Int)),by simp[binOp,Op.intDiv,pure,bU,hne],rfl⟩
 |and=>
  have:=pc (show nQ k (a &&& b)=some v from e)
  refine⟨.int k (k.wrap ((BitVec.ofInt k.bits (a:Int) &&& BitVec.ofInt k.bits (b:Int)).toNat:Nat)),by simp[binOp,Op.intBits,pure,bU],?_⟩
  rw[this,ofn,ofn,BitVec.toNat_and,BitVec.toNat_ofNat,BitVec.toNat_ofNat,CN k (· &&& ·) a b fun n=>(Nat.and_mod_two_pow ..).symm]
  rfl
 |or=>
  have:=pc (show nQ k (a ||| b)=some v from e)
  refine⟨.int k (k.wrap ((BitVec.ofInt k.bits (a:Int) ||| BitVec.ofInt k.bits (b:Int)).toNat:Nat)),by simp[binOp,Op.intBits,pure,bU],?_⟩
  rw[this,ofn,ofn,BitVec.toNat_or,BitVec.toNat_ofNat,BitVec.toNat_ofNat,CN k (· ||| ·) a b fun n=>(Nat.or_mod_two_pow ..).symm]
  rfl
 |xor=>
  have:=pc (show nQ k (a ^^^ b)=some v from e)
  refine⟨.int k (k.wrap ((BitVec.ofInt k.bits (a:Int) ^^^ BitVec.ofInt k.bits (b:Int)).toNat:Nat)),by simp[binOp,Op.intBits,pure,bU],?_⟩
  rw[this,ofn,ofn,BitVec.toNat_xor,BitVec.toNat_ofNat,BitVec.toNat_ofNat,CN k (· ^^^ ·) a b fun n=>(Nat.xor_mod_two_pow ..).symm]
  rfl
 |shl=>cases hs
 |shr=>cases hs
 |andNot=>cases e
 |eql=>
  have e:yR (Nat.beq a b)=some v:=e
  rw[tU]at e;cases e
  exact⟨.bool ((a:Int) == (b:Int)),by simp only[binOp,Op.intCmp,ne_eq,not_true_eq_false,if_false];rfl,by rw[Je];rfl⟩
 |neq=>
  have e:Lv (Nat.beq a b)=some v:=e
  rw[Jj]at e;cases e
  exact⟨.bool ((a:Int) !=(b:Int)),by simp only[binOp,Op.intCmp,ne_eq,not_true_eq_false,if_false];rfl,by rw[bne,Je];rfl⟩
 |lss=>
  have e:yR (Nat.ble (a+1) b)=some v:=e
  rw[tU]at e;cases e
  exact⟨.bool (decide ((a:Int)<(b:Int))),by simp only[binOp,Op.intCmp,ne_eq,not_true_eq_false,if_false];rfl,by rw[Jh];rfl⟩
 |leq=>
  have e:yR (Nat.ble a b)=some v:=e
  rw[tU]at e;cases e
  exact⟨.bool (decide ((a:Int)<=(b:Int))),by simp only[binOp,Op.intCmp,ne_eq,not_true_eq_false,if_false];rfl,by rw[Jg];rfl⟩
 |gtr=>
  have e:yR (Nat.ble (b+1) a)=some v:=e
  rw[tU]at e;cases e
  exact⟨.bool (decide ((b:Int)<(a:Int))),by simp only[binOp,Op.intCmp,ne_eq,not_true_eq_false,if_false];rfl,by rw[Jh];rfl⟩
 |geq=>
  have e:yR (Nat.ble b a)=some v:=e
  rw[tU]at e;cases e
  exact⟨.bool (decide ((b:Int)<=(a:Int))),by simp only[binOp,Op.intCmp,ne_eq,not_true_eq_false,if_false];rfl,by rw[Jg];rfl⟩
theorem PL{op:BinOp}{k l:IntKind}{a b:Nat}(hs:Xy op=true)(e:zW op k a b=some v)(t:TypeId):
 ∃u,bU P (binOp op t (.int k a) (.int l b))=some u/\BS u=v:=by
 have hn:¬ ((b:Int)<0):=by omega
 cases op with
 |shl=>
  have e:Bool.rec (motive:=fun _=>Option AV) none (nQ k (a*2 ^ b)) (Nat.ble b (G5 k))=some v:=e
  cases hb:Nat.ble b (G5 k)with
  |false=>rw[hb]at e;cases e
  |true=>
   rw[hb]at e
   have hle:b<=k.bits:=by rw[<- Jf];exact aj hb
   have:=pc (show nQ k (a*2 ^ b)=some v from e)
   exact⟨.int k (k.wrap ((a:Int)*2 ^ b)),by simp[binOp,Op.shift,hn,Nat.min_eq_left hle,pure,bU],by rw[this,Int.natCast_mul,Kc];rfl⟩
 |shr=>
  have e:Bool.rec (motive:=fun _=>Option AV) none (uy k (a/2 ^ b)) (Nat.ble b (G5 k))=some v:=e
  cases hb:Nat.ble b (G5 k)with
  |false=>rw[hb]at e;cases e
  |true=>
   rw[hb]at e
   have hle:b<=k.bits:=by rw[<- Jf];exact aj hb
   have e:uy k (a/2 ^ b)=some v:=e
   rw[rD]at e;cases e
   refine⟨.int k ((a:Int).fdiv (2 ^ b)),by simp[binOp,Op.shift,hn,Nat.min_eq_left hle,pure,bU],?_⟩
   rw[<- Kc,Int.fdiv_eq_ediv_of_nonneg _ (Int.natCast_nonneg _)]
   rfl
 |_=>cases hs
theorem Uf{op:BinOp}{t t2:TypeId}{x y:Operand}(ho:o.op=.binOp op t x y t2)(e:vr (Wg op) (rA x K) (rA y K)=some v):vn P h K o=some (.val v):=by
 obtain⟨u1,u2,h1,h2,e_1⟩:=la e;rw[ib]at h1 h2;obtain⟨k,i,rfl,e_2⟩:=toI_some (show toI u1 (Tw op u2)=some v from e_1);obtain⟨a,rfl,e_3⟩:=rK (show HW i (fun a=>toI u2 (Nj op k a))=some v from e_2);obtain⟨l,j,rfl,e_4⟩:=toI_some (show toI u2 (Nj op k a)=some v from e_3);obtain⟨b,rfl,e_5⟩:=rK (show HW j (We op k a l)=some v from e_4);have hop:gS P h K o=none:=by
  simp only[gS,ho,JG,h1,h2,ae];cases op<;>rfl
 rw[wg hop];obtain⟨u,k1,k2⟩:∃u,bU P (binOp op t (.int k a) (.int l b))=some u/\BS u=v:=by
  have e_5:Bool.rec (motive:=fun _=>Option AV) (Bool.rec (motive:=fun _=>Option AV) none (zW op k a b) (Nat.beq (nf k) (nf l))) (zW op k a b) (Xy op)=some v:=e_5
  cases hs:Xy op with
  |true=>rw[hs]at e_5;exact PL hs e_5 t
  |false=>
   rw[hs]at e_5
   cases hk:Nat.beq (nf k) (nf l)with
   |false=>rw[hk]at e_5;cases e_5
   |true=>rw[hk]at e_5;have e_6:zW op k a b=some v:=e_5;cases OQ hk;exact Vj hs e_6 t
 have c1:GM K x=some (.int k a):=by simp only[GM,h1,ae,toV,conv]
 have c2:GM K y=some (.int l b):=by simp only[GM,h2,ae,toV,conv]
 have hg:∀p q,bU P (eqGuard op t p q (.int k a) (.int l b))=some ():=fun p q=>by cases op<;>rfl
 have hr:bU P (execOp (fun x=>(GM K x).getD undef) o)=some (.value u):=by
  simp only[execOp,ho,c1,c2,Option.getD_some,eU,hg,k1,ae];rfl
 unfold Ap;simp only[ho,Op.operands,List.all_cons,List.all_nil,c1,c2,Option.isSome_some,Bool.and_self];rw[hr,<- k2]
theorem XE{op:UnOp}{t:TypeId}{x:Operand}(ho:o.op=.unOp op t x)(e:km (rA x K) (YM op)=some v):vn P h K o=some (.val v):=by
 obtain⟨u1,h1,e⟩:=bV e;rw[ib]at h1;have hop:gS P h K o=none:=by simp only[gS,ho]
 rw[wg hop];obtain⟨w1,u,k0,k1,k2⟩:∃w1 u,u1=.p w1/\toV u1=some w1/\bU P (Op.unary op w1)=some u/\BS u=v:=by
  cases op with
  |neg=>
   obtain⟨k,i,rfl,e⟩:=toI_some (show toI u1 Xg=some v from e)
   have e:Fo k (k.wrap (0-i))=some v:=e
   rw[JM]at e
   cases e
   exact⟨_,.int k (k.wrap (0-i)),rfl,by simp only[toV,conv],by simp[Op.unary,Op.intArith,pure,bU],rfl⟩
  |not=>
   obtain⟨b,rfl,e⟩:=toB_some (show toB u1 Lv=some v from e)
   have e:Lv b=some v:=e
   rw[Jj]at e;cases e
   exact⟨_,.bool !b,rfl,by simp only[toV,conv],rfl,rfl⟩
  |xor=>cases e
  |plus=>cases e
 have c1:GM K x=some w1:=by simp only[GM,h1,ae,k1]
 have hr:bU P (execOp (fun x=>(GM K x).getD undef) o)=some (.value u):=by
  simp only[execOp,ho,c1,Option.getD_some,eU,k2.1,ae];rfl
 unfold Ap;simp only[ho,Op.operands,List.all_cons,List.all_nil,c1,Option.isSome_some,Bool.and_self];rw[hr,<- k2.2]
theorem qW(t:TypeId){d:TypeDesc}(e:P.underlying t=some d):bU P (underlying t)=some d:=by
 unfold underlying;simp only[eU,program,bU,ae,e];rfl
theorem Wq{s d:TypeId}{x:Operand}(ho:o.op=.convert s d x)(e:km (rA x K) (Yv (XN P s d))=some v):vn P h K o=some (.val v):=by
 obtain⟨u1,h1,e_1⟩:=bV e;rw[ib]at h1
 cases hq:XN P s d with
 |none=>rw[hq]at e_1;cases e_1
 |some k=>
  rw[hq]at e_1
  obtain⟨l,n,rfl,e_2⟩:=toI_some (show toI u1 (fun _ i=>Int.rec (motive:=fun _=>Option AV) (nQ k) (fun m=>Fo k (k.wrap (.negSucc m))) i)=some v from e_1)
  have ev:v=.p (.int k (k.wrap n)):=by
   cases n with
   |ofNat n=>exact pc e_2
   |negSucc m=>
    have e_2:Fo k (k.wrap (.negSucc m))=some v:=e_2
    rw[JM]at e_2
    cases e_2
    rfl
  unfold XN at hq
  split at hq
  . rename_i ds k' hs hd
    cases hq
    have hop:gS P h K o=none:=by
     simp only[gS,ho,B3,h1,ae,ue,hs,hd]
    rw[wg hop]
    have c1:GM K x=some (.int l n):=by simp only[GM,h1,ae,toV,conv]
    have hc:bU P (convert s d (.int l n))=some (.int k (k.wrap n)):=by
     unfold convert;simp only[eU,qW s hs,qW d hd,ae];cases ds<;>rfl
    have hr:bU P (execOp (fun x=>(GM K x).getD undef) o)=some (.value (.int k (k.wrap n))):=by
     simp only[execOp,ho,c1,Option.getD_some,eU,hc,ae];rfl
    unfold Ap
    simp only[ho,Op.operands,List.all_cons,List.all_nil,c1,Option.isSome_some,Bool.and_self]
    rw[hr,ev]
    rfl
  . cases hq
theorem WE{t:TypeId}{x:Operand}{i:Nat}(ho:o.op=.fieldAddr t x i)(e:km (rA x K) (YA (UH P t i))=some v):vn P h K o=some (.val v):=by
 obtain⟨u1,h1,e_1⟩:=bV e;rw[ib]at h1;obtain⟨d,hq,e_2⟩:=bV e_1;obtain⟨q,f,rfl,e_3⟩:=toP_some e_2;rw[Dk]at e_3;cases e_3;refine fX ?_;simp only[gS,ho,xd,h1,ae,oJ];unfold UH at hq;split at hq
 . rename_i fs hu;simp only[aa]at hq;obtain⟨fl,e2,inf,e3,hq⟩:=hq;split at hq
   . rename_i hb;cases hq;simp only[hu,e2,e3,hb,ae];rfl
   . cases hq
 . cases hq
theorem WG{t:TypeId}{x:Operand}{i:Nat}(ho:o.op=.field t x i)(e:km (rA x K) (YB (UI P t i))=some v):vn P h K o=some (.val v):=by
 obtain⟨u1,h1,e_1⟩:=bV e;rw[ib]at h1;obtain⟨d,hq,e_2⟩:=bV e_1;obtain⟨l,rfl,e_3⟩:=toG_some e_2;refine fX ?_;simp only[gS,ho,JH,h1,ae,Dh];unfold UI at hq;split at hq
 . rename_i fs hu;simp only[ab]at hq;obtain⟨fl,e2,rfl⟩:=hq;simp only[hu,e2,ae,zP (P:=P) e_3,ak]
 . cases hq
theorem WT{t:TypeId}{x y:Operand}(ho:o.op=.indexAddr t x y)(e:vr (YE (UW P t)) (rA x K) (rA y K)=some v):vn P h K o=some (.val v):=by
 obtain⟨u1,u2,h1,h2,e_1⟩:=la e;rw[ib]at h1 h2;obtain⟨q,hq,e_2⟩:=bV e_1;obtain⟨k,j,rfl,e_3⟩:=toI_some e_2;obtain⟨i,rfl,e_4⟩:=rK e_3;refine fX ?_;have hn:te (.p (.int k (i:Int)))=some i:=by simp[te]
 simp only[gS,ho,xe,h1,h2,ae,oW,hn];unfold UW at hq;split at hq
 . rename_i n el hu;simp only[ab]at hq;obtain⟨inf,e2,rfl⟩:=hq;obtain⟨p,f,rfl,e_5⟩:=toP_some (show YC n inf.size u1 i=some v from e_4)
   cases hb:Nat.ble (i+1) n with
   |false=>rw[show Nat.ble (Nat.succ i) n=false from hb]at e_5;cases e_5
   |true=>
    rw[show Nat.ble (Nat.succ i) n=true from hb]at e_5
    have e_5:LY p (f+i*inf.size)=some v:=e_5
    rw[Dk]at e_5;cases e_5
    simp only[hu,e2,hb,ae]
 . rename_i el hu;simp only[ab]at hq;obtain⟨inf,e2,rfl⟩:=hq;obtain⟨p,f,n,c,z,rfl,e_6⟩:=toS_some (show YD inf.size u1 i=some v from e_4)
   cases hb:Nat.ble (i+1) n with
   |false=>rw[show Nat.ble (Nat.succ i) n=false from hb]at e_6;cases e_6
   |true=>
    rw[show Nat.ble (Nat.succ i) n=true from hb]at e_6
    have e_6:LY p (f+i*inf.size)=some v:=e_6
    rw[Dk]at e_6;cases e_6
    simp only[hu,e2,hb,ae]
 . cases hq
theorem WW{t:TypeId}{x y:Operand}(ho:o.op=.index t x y)(e:vr (YG (UY P t)) (rA x K) (rA y K)=some v):vn P h K o=some (.val v):=by
 obtain⟨u1,u2,h1,h2,e_1⟩:=la e;rw[ib]at h1 h2;obtain⟨q,hq,e_2⟩:=bV e_1;obtain⟨k,j,rfl,e_3⟩:=toI_some e_2;obtain⟨i,rfl,e_4⟩:=rK e_3;obtain⟨l,rfl,e_5⟩:=toG_some e_4;refine fX ?_;have hn:te (.p (.int k (i:Int)))=some i:=by simp[te]
 simp only[gS,ho,JJ,h1,h2,ae,Dn,hn];unfold UY at hq;split at hq
 . rename_i n el hu;simp only[ab]at hq;obtain⟨inf,e2,rfl⟩:=hq
   cases hb:Nat.ble (i+1) n with
   |false=>rw[show Nat.ble (Nat.succ i) n=false from hb]at e_5;cases e_5
   |true=>
    rw[show Nat.ble (Nat.succ i) n=true from hb]at e_5
    have e_5:V1 (eA P el) l (i*inf.size)=some v:=e_5
    simp only[hu,e2,hb,ae,zP e_5,ak]
 . cases hq
theorem WB{x:Operand}{i:Nat}(ho:o.op=.extract x i)(e:km (rA x K) (Yz i)=some v):vn P h K o=some (.val v):=by
 obtain⟨u1,h1,e_1⟩:=bV e;rw[ib]at h1;obtain⟨l,rfl,e_2⟩:=toT_some e_1;rw[DC]at e_2;exact fX (by simp only[gS,ho,B4,h1,ae,e_2,ak])
theorem JF:∀(l:List Operand) {r:List AV},Db l K=some r->LR K l=some r
 |[],_,e=>e
 |x::l,r,e=>by
  obtain⟨a,b,h1,h2,h3⟩:=la (show vr (fun v l=>some (v::l)) (rA x K) (Db l K)=some r from e);cases h3;rw[ib]at h1;simp only[LR,h1,ae,JF l h2,ak]
theorem Wn{c:Call}(ho:o.op=.call c):EN P h K o (Yu (O8 P c) h K):=by
 have hop:∀{g:FuncId} {l:List AV},c.callee=.value (.func g)->mu P g=true->Db c.args.toList K=some l->vn P h K o=some (.enter g l):=fun hc hb hl=>fX (by
  simp only[gS,ho,Ht,E1,JF _ hl,ae,hc,dE,hb,aL,aU])
 unfold O8;split
 . rename_i g hc;split
   . rename_i hb;split
     . show EN P h K o (WA h g (Db c.args.toList K))
       cases hl:Db c.args.toList K with
       |none=>trivial
       |some l=>
        show EN P h K o (Wz g l (xH g h l))
        cases hv:xH g h l with
        |none=>trivial
        |some v=>exact⟨hop hc hb hl,hv⟩
     . rename_i he;show EN P h K o (Yx g (Db c.args.toList K))
       cases hl:Db c.args.toList K with
       |none=>trivial
       |some l=>exact⟨hop hc hb hl,by unfold xH;rw[he]⟩
   . trivial
 . rename_i hc;split
   . rename_i t ts x ht hx;split
     . rename_i e hu;refine nX fun v ev=>?_
       obtain⟨u,h1,h2⟩:=bV ev;obtain⟨p,f,n,cc,z,rfl,h3⟩:=toS_some (show toS u (fun _ _ n=>uy .i64 n)=some v from h2);rw[rD]at h3;cases h3;rw[ib]at h1;refine fX ?_;simp only[gS,ho,Ht,E1,hx,LR,h1,ae,ak,hc,isRec,tV,ht,hu];rfl
     . trivial
   . trivial
 . trivial
theorem DM:EN P h K o (SF o.op P h K):=by
 cases ho:o.op with
 |move x=>exact nX fun v e=>fX (by rw[ib]at e;simp only[gS,ho,NY,e,ak])
 |assign x=>exact nX fun v e=>fX (by rw[ib]at e;simp only[gS,ho,Fh,e,ak])
 |load t x=>exact nX fun v e=>fX (by
  obtain⟨u,h1,h2⟩:=bV e;rw[ib]at h1;simp only[gS,ho,NV,h1,ae,TN h2,ak])
 |store t x y=>exact XD fun v e=>fX (by
  obtain⟨u,h1,h2⟩:=bV e;obtain⟨u',h3,h4⟩:=bV h2;rw[ib]at h1 h3;simp only[gS,ho,JK,h1,h3,ae,Xz h4])
 |nilCheck x=>exact nX fun v e=>fX (by
  obtain⟨u,h1,h2⟩:=bV e;rw[ib]at h1;cases u<;>first|(cases h2;simp only[gS,ho,zr,h1,ae])|cases h2)
 |binOp op t x y t2=>exact nX fun v e=>Uf ho e
 |unOp op t x=>exact nX fun v e=>XE ho e
 |convert s d x=>exact nX fun v e=>Wq ho e
 |fieldAddr t x i=>exact nX fun v e=>WE ho e
 |field t x i=>exact nX fun v e=>WG ho e
 |indexAddr t x y=>exact nX fun v e=>WT ho e
 |index t x y=>exact nX fun v e=>WW ho e
 |extract x i=>exact nX fun v e=>WB ho e
 |call c=>exact Wn ho
 |_=>trivial
end
end Go.Proofs.YtjfkdglgecgjfaaGreat.R
namespace Go.Proofs.YtjfkdglgecgjfaaGreat.R
open Go.RowKit
section
variable {P:Program}{W:World->Prop}{ih:pS}{c:Cx}{h:HS}{K K0 K':Tr AV}{td td' k:List AI}{L:List Rt}{ops:Array Oper}{i:Nat}{l:List Nat}{o:Oper}{v:AV}{S0:n7}{z:cm}{pe:List (Nat×Fl)}
theorem Tc{r:AR}(ho:oO ops i=some o)(hg:iR ops K o=some true)(hr:vn P h K o=some r):
 fe P (c.st h K (.ops ops (i::l)::k) .run)=hZ P (c.st h K (.ops ops (i::l)::k) .run) r:=by
 have ho:ops[i]?=some o:=ho
 simp only[fe,mB,Cx.st,Cx.fr,pr,ho,hg,hr]
theorem Hj(ho:oO ops i=some o):lH ops i=o.dst:=by
 have ho:ops[i]?=some o:=ho;simp only[lH,ho,ae]
def Lg(c:Cx)(K:Tr AV)(td td':List AI)(d:Option Nat):Prop:=∀v K',jT K c.n d v=some K'->bT (c.fr K td .run) v=some (c.fr K' td' .run)
theorem N1(ho:oO ops i=some o):Lg c K (.ops ops (i::l)::k) (.ops ops l::k) o.dst:=fun v K' e=>by
 simp only[bT,Cx.fr,Hj ho,e,ak]
theorem N0(ho:oO ops i=some o):Lg c K (.nF ops K0 (i::l) pe::k) (.nF ops K0 l (Bz ops i pe)::k) o.dst:=fun v K' e=>by
 simp only[bT,Cx.fr,Hj ho,e,ak,Di]
theorem I5(hX:∀w0,W w0->fj P w0)(H:vp P W ih)(hf:Lg c K td td' o.dst)(hs:fe P S0=hZ P (c.st h K td .run) (.val v))(e:nT ih c h K td' o.dst v=some L):Good P W S0 c.bf (c.cs.drop c.e) L:=by
 obtain⟨K',e1,e2⟩:=Iv H e;refine cn hX (s':=c.st h K' td' .run) (.inl ?_) e2;have hF:=hf v K' e1;rw[hs];show jx "finish" ((bT (c.fr K td .run) v).map fun fr=>fD.one ⟨h,fr,c.cs⟩)=_;rw[hF];rfl
theorem QU(hX:∀w0,W w0->fj P w0)(H:vp P W ih)(hf:Lg c K td td' o.dst){h':HS}(hs:fe P S0=hZ P (c.st h K td .run) (.jk v h'))(e:nT ih c h' K td' o.dst v=some L):Good P W S0 c.bf (c.cs.drop c.e) L:=by
 obtain⟨K',e1,e2⟩:=Iv H e;refine cn hX (s':=c.st h' K' td' .run) (.inl ?_) e2;have hF:=hf v K' e1;rw[hs];show jx "finish" ((bT (c.fr K td .run) v).map fun fr=>fD.one ⟨h',fr,c.cs⟩)=_;rw[hF];rfl
theorem QT(hX:∀w0,W w0->fj P w0)(H:vp P W ih)(hf:Lg c K td td' o.dst){g:FuncId}{a:List AV}(hv:xH g h a=some v)(hs:fe P S0=hZ P (c.st h K td .run) (.enter g a))(e:nT ih c h K td' o.dst v=some L):Good P W S0 c.bf (c.cs.drop c.e) L:=by
 refine I5 hX H hf (hs.trans ?_) e;show(match xH g h a with
  |some v=>jx "finish" ((bT (c.fr K td .run) v).map fun fr=>fD.one ⟨h,fr,c.cs⟩)
  |none=>_)=_
 rw[hv];rfl
theorem I9:∀(l:List AV) (i:Nat) (K:Tr AV),QX l i K=Lo i K l
 |[],_,_=>rfl
 |_::l,i,K=>I9 l (i+1) _
theorem J1:∀l:List AV,Sd l=l.length
 |[]=>rfl
 |_::l=>congrArg Nat.succ (J1 l)
theorem Ra(hX:∀w0,W w0->fj P w0)(H:vp P W ih){g:FuncId}{a:List AV}(hn:xH g h a=none)(hs:fe P S0=hZ P (c.st h K td .run) (.enter g a))
 (e:Jm P ih c h K td g a=some L):Good P W S0 c.bf (c.cs.drop c.e) L:=by
 obtain⟨⟨cd,n⟩,h1,h2⟩:=bV e
 have h2:zC n (fun m=>Bool.rec (motive:=fun _=>cm) none (ih ⟨Nat.succ c.e,c.fr K td .run::c.cs,g,m,[],.normal,none⟩ h (QX a 0 .nil) [.code cd] .run) (Nat.ble (Sd a) m))=some L:=h2
 rw[uz]at h2
 cases hb:Nat.ble (Sd a) n with
 |false=>rw[hb]at h2;cases h2
 |true=>
  rw[hb]at h2
  refine cn hX (s':=Cx.st ⟨Nat.succ c.e,c.fr K td .run::c.cs,g,n,[],.normal,none⟩ h (QX a 0 .nil) [.code cd] .run) (.inr (.inl ?_)) (H _ _ _ _ _ _ h2)
  rw[hs]
  simp only[Ji,aa,ab]at h1
  obtain⟨fn,e1,cd',e2,e3⟩:=h1
  cases e3
  rw[J1]at hb
  simp only[hZ,hn,qt,e1,e2,ae,hb,ak,jx,I9,Cx.st,Cx.fr]
theorem M6(hX:∀w0,W w0->fj P w0)(H:vp P W ih)(hf:Lg c K td td' o.dst){rv:RV}(hv:EN P h K o rv)(hs:∀r,vn P h K o=some r->fe P S0=hZ P (c.st h K td .run) r)
 (hz:z=some L->Good P W S0 c.bf (c.cs.drop c.e) L)
 (e:RV.rec (motive:=fun _=>cm) (fun v=>nT ih c h K td' o.dst v) (fun h'=>nT ih c h' K td' o.dst fg) (fun g a=>Jm P ih c h K td g a) (fun v _ _=>nT ih c h K td' o.dst v) z rv=some L):Good P W S0 c.bf (c.cs.drop c.e) L:=by
 cases rv with
 |val v=>exact I5 hX H hf (hs _ hv) e
 |jk h'=>exact QU hX H hf (hs _ hv) e
 |enter g a=>exact Ra hX H hv.2 (hs _ hv.1) e
 |ext v g a=>exact QT hX H hf hv.2 (hs _ hv.1) e
 |cY=>exact hz e
theorem O3(hX:∀w0,W w0->fj P w0)(H:vp P W ih)(ho:oO ops i=some o)(hg:iR ops K o=some true)(e:Xl P ih c h K ops i l k o=some L):Good P W (c.st h K (.ops ops (i::l)::k) .run) c.bf (c.cs.drop c.e) L:=by
 refine M6 hX H (N1 ho) (DM (P:=P) (h:=h) (K:=K) (o:=o)) (fun r hr=>Tc ho hg hr) (z:=cY P ih c h K (.ops ops (i::l)::k) .run) (fun z=>iK hX H z) ?_;unfold Xl at e;cases hr:SF o.op P h K<;>rw[hr]at e<;>exact e
theorem toA_some{x:AV}{q:Bool->cm}{z:cm}(e:toA x q z=some L):(∃b,x=.p (.bool b)/\q b=some L)\/z=some L:=by
 cases x with
 |p u=>
  have e:XF u q z=some L:=e
  cases u<;>first|exact .inl ⟨_,rfl,e⟩|exact .inr e
 |_=>exact .inr e
theorem NM(a b:Bool):VY a b=(a == b):=by cases a<;>cases b<;>rfl
theorem Ru(ops:Array Oper)(j:Nat):Fa ops j=lH ops j:=rfl
theorem Vv(hX:∀w0,W w0->fj P w0)(H:vp P W ih)(e:Xm P ih c h K ops k l=some L):Good P W (c.st h K (.ops ops l::k) .run) c.bf (c.cs.drop c.e) L:=by
 cases l with
 |nil=>exact cn hX (s':=c.st h K k .run) (.inl rfl) (H _ _ _ _ _ _ e)
 |cons i l=>
  have e:Option.rec (motive:=fun _=>cm) none (fun o=>UU o.guard P ih c h K ops i l k o) (oO ops i)=some L:=e
  cases ho:oO ops i with
  |none=>rw[ho]at e;cases e
  |some o=>
   rw[ho]at e
   have e:UU o.guard P ih c h K ops i l k o=some L:=e
   cases hg:o.guard with
   |none=>
    rw[hg]at e
    exact O3 hX H ho (by simp only[iR,hg]) e
   |some jw=>
    obtain⟨j,w⟩:=jw
    rw[hg]at e
    have e:Option.rec (motive:=fun _=>cm) none
     (fun v=>toA v (fun b=>Bool.rec (motive:=fun _=>cm) (nT ih c h K (.ops ops l::k) o.dst fg) (Xl P ih c h K ops i l k o) (VY b w)) (cY P ih c h K (.ops ops (i::l)::k) .run))
     (km (Fa ops j) fun d=>oQ (xl d) K)=some L:=e
    cases hv:km (Fa ops j) fun d=>oQ (xl d) K with
    |none=>rw[hv]at e;cases e
    |some v=>
     rw[hv]at e
     obtain⟨d,h1,h2⟩:=bV hv
     rcases toA_some e with⟨b,rfl,e9⟩|e9
     . have hgd:iR ops K o=some (b == w):=by
        have h2:K.get d=some (.p (.bool b)):=h2;simp only[iR,hg,<- Ru,h1,ae,h2,ak]
       cases hb:VY b w with
       |true=>
        rw[hb]at e9
        exact O3 hX H ho (by rw[hgd,<- NM,hb]) e9
       |false=>
        rw[hb]at e9
        obtain⟨K',e1,e2⟩:=Iv H e9
        refine cn hX (.inl ?_) e2
        have ho':ops[i]?=some o:=ho
        have hgd:iR ops K o=some false:=by rw[hgd,<- NM,hb]
        simp only[fe,mB,Cx.st,Cx.fr,pr,ho',hgd,bT,Hj ho,e1,ak,jx]
     . exact iK hX H e9
theorem Rg(hX:∀w0,W w0->fj P w0)(H:vp P W ih){a b:Code}{z:cm}{x:Operand}(hz:z=some L->Good P W (c.st h K (.code (.cond x a b)::k) .run) c.bf (c.cs.drop c.e) L)(e:Nw P ih c h K k a b z x=some L):
 Good P W (c.st h K (.code (.cond x a b)::k) .run) c.bf (c.cs.drop c.e) L:=by
 unfold Nw at e
 cases hx:rA x K with
 |none=>rw[hx]at e;exact hz e
 |some v=>
  rw[hx]at e
  rcases toA_some e with⟨t,rfl,e9⟩|e9
  . rw[ib]at hx
    cases t with
    |true=>exact cn hX (s':=c.st h K (.code a::k) .run) (.inl (by simp only[fe,mB,j0,Cx.st,Cx.fr,hx])) (H _ _ _ _ _ _ e9)
    |false=>exact cn hX (s':=c.st h K (.code b::k) .run) (.inl (by simp only[fe,mB,j0,Cx.st,Cx.fr,hx])) (H _ _ _ _ _ _ e9)
  . exact hz e9
theorem Hq{id:Nat}:∀{l r:List AI},Wy id l=some r->um id l=some r
 |[],_,e=>by cases e
 |x::l,r,e=>by
  cases x with
  |kj n=>
   have e:Bool.rec (motive:=fun _=>Option (List AI)) (Wy id l) (some l) (Nat.beq n id)=some r:=e
   unfold um
   cases hb:Nat.beq n id with
   |true=>rw[hb]at e;exact e
   |false=>rw[hb]at e;exact Hq e
  |_=>exact Hq (l:=l) e
theorem DT:∀{l:List ResultVar} {r:List AV},Pf P h K l=some r->xO P h K l=some r
 |[],_,e=>e
 |x::l,r,e=>by
  obtain⟨a,b,h1,h2,h3⟩:=la (show vr (fun v l=>some (v::l)) (Xn P h K x) (Pf P h K l)=some r from e);cases h3
  cases x with
  |tmp t=>
   have h1:K.get t=some a:=h1
   simp only[xO,h1,ae,DT h2,ak]
  |cell q t=>
   obtain⟨u,h3,h4⟩:=bV (show km (oQ (xl q) K) (XT (eA P t) h)=some a from h1)
   have h3:K.get q=some u:=h3
   simp only[xO,h3,ae,TN h4,DT h2,ak]
theorem DU(l:List AV):Ax l=Ig l:=by
 match l with
 |[]=>rfl
 |[_]=>rfl
 |_::_::_=>rfl
theorem yc(hX:∀w0,W w0->fj P w0)(H:vp P W ih){z:cm}(hl:c.rd=none->Good P W (c.st h K td .ret) c.bf (c.cs.drop c.e) L->Good P W S0 c.bf (c.cs.drop c.e) L)(hb:∀rs,Av td rs=true)
 (hz:z=some L->Good P W S0 c.bf (c.cs.drop c.e) L) (e:Pg P ih c h K z=some L):Good P W S0 c.bf (c.cs.drop c.e) L:=by
 obtain⟨ee,cs,fn,n,ds,kind,rd⟩:=c
 cases rd with
 |some r=>exact hz e
 |none=>
  cases ds with
  |cons d ds=>exact hz e
  |nil=>
   have e:Bool.rec (motive:=fun _=>cm) z (Xo P ih ⟨ee,cs,fn,n,[],kind,none⟩ h K z) (Vl kind)=some L:=e
   cases hk:Vl kind with
   |false=>rw[hk]at e;exact hz e
   |true=>
    rw[hk]at e
    cases OP hk
    have e:zC fn (fun f=>Option.rec (motive:=fun _=>cm) z (fun l=>Nat.rec (motive:=fun _=>cm) (Uq cs h (Ax l) z) (fun e _=>List.rec (motive:=fun _=>cm) z (fun A cs _=>zx A ih e cs h (Ax l) z) cs) ee) (km (SI P f) (Pf P h K)))=some L:=e
    rw[uz]at e
    cases hr:km (SI P fn) (Pf P h K)with
    |none=>rw[hr]at e;exact hz e
    |some vs=>
     rw[hr]at e
     obtain⟨rs,h1,h2⟩:=bV hr
     simp only[SI,ab]at h1
     obtain⟨f,h1,rfl⟩:=h1
     have h2:=DT h2
     cases ee with
     |zero=>
      have e:Uq cs h (Ax vs) z=some L:=e
      cases cs with
      |nil=>
       cases e
       refine hl rfl (nJ (r:=.ret h (Ax vs)) ?_ (aq ..))
       exact⟨rfl,rfl,rfl,rfl,rfl,rfl,f,vs,h1,h2,hb _,DU vs⟩
      |cons A cs=>
       rcases Fk (show zx A (fun _ _ _ _ _=>some [.ret h (Ax vs)]) 0 cs h (Ax vs) z=some L from e)with e|⟨A',e1,_,e2⟩
       . exact hz e
       . cases e2
         refine hl rfl (cn hX (s':=⟨h,A',cs⟩) (.inr (.inr ?_)) (nJ (r:=.ret h (Ax vs)) ⟨A',e1,rfl⟩ (aq ..)))
         rw[DU]at e1
         simp only[fe,sb,Cx.st,Cx.fr,h1,ae,h2,hb,e1,ak,jx]
     |succ ee=>
      cases cs with
      |nil=>exact hz e
      |cons A cs=>
       rcases Hz H (show zx A ih ee cs h (Ax vs) z=some L from e)with e|⟨A',e1,e2⟩
       . exact hz e
       . refine hl rfl (cn hX (s':=⟨h,A',cs⟩) (.inr (.inr ?_)) e2)
         rw[DU]at e1
         simp only[fe,sb,Cx.st,Cx.fr,h1,ae,h2,hb,e1,ak,jx]
theorem Dz(hm:HR ops i o=true):xL ops K0 K i o=K:=by
 have:∀ts:List Tmp,(ts.all fun t=>match D.writer ops t with
  |none=>true
  |some j=>D.mS ops j i)=true->∀K,Dy ops K0 i ts K=K:=by
  intro ts
  induction ts with
  |nil=>intro _ K;rfl
  |cons t ts ih=>
   intro h K
   simp only[List.all_cons,al]at h
   unfold Dy
   rw[ih h.2]
   have h1:=h.1
   cases hw:D.writer ops t with
   |none=>rfl
   |some j=>
    rw[hw]at h1
    simp only at h1 ⊢
    rw[h1]
 exact this _ hm K
theorem HD(hg:TE o=true):iR ops K o=some true:=by
 unfold TE at hg;unfold iR
 cases h:o.guard with
 |none=>rfl
 |some g=>rw[h]at hg;cases hg
theorem PW{n:Nat}{h:HS}:∀{pe pe':List (Nat×Fl)} {K K':Tr AV},D2 P ops l n h pe K=some (K',pe')->lX P ops K0 l n pe h K=some (h,K',pe')
 |[],pe',K,K',e=>by cases e;rfl
 |(i,fl)::pe,pe',K,K',e=>by
  have ma:∀{fl:Fl} {pe'':List (Nat×Fl)} {K K':Tr AV},Gz (D2 P ops l n h pe) (i,fl) K=some (K',pe'')->(lX P ops K0 l n pe h K).map (fun r=>(r.1,r.2.1,(i,fl)::r.2.2))=some (h,K',pe''):=by
   intro fl pe'' K K' e;obtain⟨r,h1,h2⟩:=bV e;cases h2;rw[PW (show D2 P ops l n h pe K=some (r.1,r.2) from h1)];rfl
  cases fl with
  |val=>unfold lX;exact ma e
  |new q=>unfold lX;exact ma e
  |no=>
   have e:Bool.rec (motive:=fun _=>ER) (km (oO ops i) (VJ P ops n h (D2 P ops l n h pe) i K)) (Gz (D2 P ops l n h pe) (i,.no) K) (Na ops l i)=some (K',pe'):=e
   unfold lX
   simp only
   cases ha:Na ops l i with
   |true=>
    rw[ha]at e
    have ha:(l.any fun c=>D.mS ops c i)=true:=ha
    rw[ha]
    exact ma e
   |false=>
    rw[ha]at e
    have ha:(l.any fun c=>D.mS ops c i)=false:=ha
    rw[ha]
    obtain⟨o,ho,e⟩:=bV e
    have ho:ops[i]?=some o:=ho
    simp only[ho,ae]
    unfold VJ at e
    cases hm:HR ops i o with
    |false=>rw[hm]at e;cases e
    |true=>
     rw[hm]at e
     cases hg:TE o with
     |false=>rw[hg]at e;cases e
     |true=>
      rw[hg]at e
      have hv:=DM (P:=P) (h:=h) (K:=K) (o:=o)
      rw[Dz (K0:=K0) (K:=K) hm,HD (ops:=ops) (K:=K) hg]
      simp only[ae]
      cases hr:SF o.op P h K with
      |val v=>
       rw[hr]at e hv
       have hv:vn P h K o=some (.val v):=hv
       rw[hv]
       simp only[ae]
       have e:XA n (D2 P ops l n h pe) i K v o.dst=some (K',pe'):=e
       cases hd:o.dst with
       |none=>
        rw[hd]at e
        simp only[jT,ak,ae]
        exact ma e
       |some d=>
        rw[hd]at e
        have e:Bool.rec (motive:=fun _=>ER) none (Gz (D2 P ops l n h pe) (i,.val) (BJ (xl d) (some v) K)) (Nat.ble (d+1) n)=some (K',pe'):=e
        cases hb:Nat.ble (d+1) n with
        |false=>rw[hb]at e;cases e
        |true=>
         rw[hb]at e
         simp only[jT,hb,ak,ae]
         exact ma e
      |jk h'=>rw[hr]at e;cases e
      |enter g a=>rw[hr]at e;cases e
      |ext v g a=>rw[hr]at e;cases e
      |cY=>rw[hr]at e;cases e
theorem Rv{n:Nat}{d:Option Nat}(e:Un K n v d=true):E9 K n d v=true:=by
 cases d with
 |none=>rfl
 |some d=>
  have e:Bool.rec (motive:=fun _=>Bool) false (Option.rec (motive:=fun _=>Bool) false (fun u=>Fg u v) (oQ (xl d) K)) (Nat.ble (Nat.succ d) n)=true:=e
  cases hb:Nat.ble (d+1) n with
  |false=>rw[show Nat.ble (Nat.succ d) n=false from hb]at e;cases e
  |true=>
   rw[show Nat.ble (Nat.succ d) n=true from hb]at e
   have e:Option.rec (motive:=fun _=>Bool) false (fun u=>Fg u v) (K.get d)=true:=e
   unfold E9
   simp only[hb,Bool.true_and]
   cases hk:K.get d with
   |none=>rw[hk]at e;cases e
   |some u=>rw[hk]at e;exact Hp e
theorem Nr{n:Nat}{h:HS}:∀{pe:List (Nat×Fl)},Np P ops l n h K pe=true->pe.all (CO P ops K0 n h K)=true/\(pe.all fun q=>!R6 q.2||l.any fun c=>D.mS ops c q.1)=true/\tf pe=[]
 |[],_=>⟨rfl,rfl,rfl⟩
 |(i,fl)::pe,e=>by
  obtain⟨h1,h2⟩:=dz (show iO (Fl.rec (motive:=fun _=>Bool) (Na ops l i) (Option.rec (motive:=fun _=>Bool) false (Uh P ops n h K i) (oO ops i)) (fun _=>false) fl) (Np P ops l n h K pe)=true from e);obtain⟨h3,h4,h5⟩:=Nr h2;simp only[List.all_cons,al]
  cases fl with
  |no=>exact⟨⟨rfl,h3⟩,⟨h1,h4⟩,h5⟩
  |new q=>cases h1
  |val=>
   refine⟨⟨?_,h3⟩,⟨rfl,h4⟩,h5⟩
   have h1:Option.rec (motive:=fun _=>Bool) false (Uh P ops n h K i) (oO ops i)=true:=h1
   cases ho:oO ops i with
   |none=>rw[ho]at h1;cases h1
   |some o=>
    rw[ho]at h1
    have ho:ops[i]?=some o:=ho
    obtain⟨k1,k2⟩:=dz (show iO (HR ops i o) (iO (TE o) (RV.rec (motive:=fun _=>Bool) (fun v=>Un K n v o.dst) (fun _=>false) (fun _ _=>false) (fun _ _ _=>false) false (SF o.op P h K)))=true from h1)
    obtain⟨k2,k3⟩:=dz k2
    have hv:=DM (P:=P) (h:=h) (K:=K) (o:=o)
    unfold CO
    simp only[ho,Dz (K0:=K0) (K:=K) k1,HD (ops:=ops) (K:=K) k2]
    cases hr:SF o.op P h K with
    |val v=>
     rw[hr]at k3 hv
     have hv:vn P h K o=some (.val v):=hv
     rw[hv]
     exact Rv k3
    |jk h'=>rw[hr]at k3;cases k3
    |enter g a=>rw[hr]at k3;cases k3
    |ext v g a=>rw[hr]at k3;cases k3
    |cY=>rw[hr]at k3;cases k3
theorem NH(hX:∀w0,W w0->fj P w0)(H:vp P W ih)(hz:z=some L->Good P W (c.st h K (.nF ops K0 l pe::k) .run) c.bf (c.cs.drop c.e) L)
 (e:NG P ih c h K ops K0 l pe k z=some L):Good P W (c.st h K (.nF ops K0 l pe::k) .run) c.bf (c.cs.drop c.e) L:=by
 unfold NG at e
 cases hs:D2 P ops l c.n h pe K with
 |none=>rw[hs]at e;exact hz e
 |some r=>
  obtain⟨K1,pe1⟩:=r
  rw[hs]at e
  have hst:=PW (K0:=K0) hs
  have e:Bool.rec (motive:=fun _=>cm) z (Bool.rec (motive:=fun _=>cm) z (List.rec (motive:=fun _=>cm) (ih c h K1 k .run) (fun i t _=>Option.rec (motive:=fun _=>cm) z (NI P ih c h K1 ops K0 i t pe1 k z) (oO ops i)) l) (Vx ops l)) (Np P ops l c.n h K1 pe1)=some L:=e
  cases hc:Np P ops l c.n h K1 pe1 with
  |false=>rw[hc]at e;exact hz e
  |true=>
   rw[hc]at e
   cases ho:Vx ops l with
   |false=>rw[ho]at e;exact hz e
   |true=>
    rw[ho]at e
    obtain⟨h1,h2,h3⟩:=Nr (K0:=K0) hc
    have hk:Nq P ops K0 c.n l h K1 pe1=true:=by
     unfold Nq;rw[h1,h2,h3];exact ho
    cases l with
    |nil=>
     refine cn hX (s':=c.st h K1 k .run) (.inl ?_) (H _ _ _ _ _ _ e)
     simp only[fe,mB,Cx.st,Cx.fr,nD,hst,hk]
    |cons i t=>
     have e:Option.rec (motive:=fun _=>cm) z (NI P ih c h K1 ops K0 i t pe1 k z) (oO ops i)=some L:=e
     cases hi:oO ops i with
     |none=>rw[hi]at e;exact hz e
     |some o=>
      rw[hi]at e
      have e:NI P ih c h K1 ops K0 i t pe1 k z o=some L:=e
      unfold NI at e
      cases hm:HR ops i o with
      |false=>rw[hm]at e;exact hz e
      |true=>
       rw[hm]at e
       cases hg:TE o with
       |false=>rw[hg]at e;exact hz e
       |true=>
        rw[hg]at e
        have hi':ops[i]?=some o:=hi
        refine M6 hX H (td:=.nF ops K0 (i::t) pe1::k) (N0 hi) (DM (P:=P) (h:=h) (K:=K1) (o:=o)) (fun r hr=>?_) hz e
        simp only[fe,mB,Cx.st,Cx.fr,nD,hst,hk,pr,hi',Dz (K0:=K0) (K:=K1) hm,HD (ops:=ops) (K:=K1) hg,hr]
theorem Nu(hX:∀w0,W w0->fj P w0)(H:vp P W ih)(x:Code)(e:Ty x P ih c h K k=some L):Good P W (c.st h K (.code x::k) .run) c.bf (c.cs.drop c.e) L:=by
 cases x with
 |skip=>exact cn hX (s':=c.st h K k .run) (.inl rfl) (H _ _ _ _ _ _ e)
 |region id ops dr=>
  cases dr with
  |false=>exact cn hX (s':=c.st h K (.ops ops (YJ ops)::k) .run) (.inl rfl) (H _ _ _ _ _ _ e)
  |true=>
   have e:Bool.rec (motive:=fun _=>cm) (cY P ih c h K (.code (.region id ops true)::k) .run) (ih c h K (.nF ops K (vy ops) (tp ops)::k) .run) (Ui P ops c.n)=some L:=e
   cases hq:Ui P ops c.n with
   |false=>rw[hq]at e;exact iK hX H e
   |true=>
    rw[hq]at e
    have hq:(P.follows .mixedOrders&&Ha ops c.n)=true:=hq
    exact cn hX (s':=c.st h K (.nF ops K (vy ops) (tp ops)::k) .run) (.inl (by simp only[fe,mB,j0,Cx.st,Cx.fr,hq])) (H _ _ _ _ _ _ e)
 |seq a b=>exact cn hX (s':=c.st h K (.code a:: .code b::k) .run) (.inl rfl) (H _ _ _ _ _ _ e)
 |cond x a b=>exact Rg hX H (fun z=>iK hX H z) e
 |block id b=>exact cn hX (s':=c.st h K (.code b:: .kj id::k) .run) (.inl rfl) (H _ _ _ _ _ _ e)
 |loop b=>exact cn hX (s':=c.st h K (.code b:: .lp b::k) .run) (.inl rfl) (H _ _ _ _ _ _ e)
 |scope b=>exact cn hX (s':=c.st h K (.code b:: .sc b::k) .run) (.inl rfl) (H _ _ _ _ _ _ e)
 |exit id=>
  have e:Option.rec (motive:=fun _=>cm) (cY P ih c h K (.code (.exit id)::k) .run) (fun k=>ih c h K k .run) (Wy id k)=some L:=e
  cases hx:Wy id k with
  |none=>rw[hx]at e;exact iK hX H e
  |some k'=>
   rw[hx]at e
   exact cn hX (s':=c.st h K k' .run) (.inl (by simp only[fe,mB,j0,Cx.st,Cx.fr,Hq hx])) (H _ _ _ _ _ _ e)
 |ret=>
  refine yc hX H (td:=.code .ret::k) (fun hn g=>cn hX (.inl ?_) g) (fun rs=>rfl) (fun z=>iK hX H z) e
  simp only[fe,mB,j0,kq,Cx.st,Cx.fr,hn]
 |_=>exact iK hX H e
theorem Oi(hX:∀w0,W w0->fj P w0)(H:vp P W ih)(x:AI)(e:TH x P ih c h K k=some L):Good P W (c.st h K (x::k) .run) c.bf (c.cs.drop c.e) L:=by
 cases x with
 |code cd=>exact Nu hX H cd e
 |kj id=>exact cn hX (s':=c.st h K k .run) (.inl rfl) (H _ _ _ _ _ _ e)
 |lp cd=>exact cn hX (s':=c.st h K (.code cd:: .lp cd::k) .run) (.inl rfl) (H _ _ _ _ _ _ e)
 |sc cd=>exact cn hX (s':=c.st h K k .run) (.inl rfl) (H _ _ _ _ _ _ e)
 |ops ops l=>exact Vv hX H e
 |nF ops K0 td pe=>exact NH hX H (fun z=>iK hX H z) e
 |_=>exact iK hX H e
theorem Sj(hX:∀w0,W w0->fj P w0)(H:vp P W ih):vp P W (TQ P ih):=by
 intro c h K td md L e
 cases md with
 |run=>
  cases td with
  |nil=>
   refine yc hX H (td:=[]) (fun hn g=>cn hX (.inl ?_) g) (fun rs=>rfl) (fun z=>iK hX H z) e
   simp only[fe,mB,kq,Cx.st,Cx.fr,hn]
  |cons x k=>exact Oi hX H x e
 |ret=>
  have hz:∀L,cY P ih c h K td .ret=some L->Good P W (c.st h K td .ret) c.bf (c.cs.drop c.e) L:=fun L z=>iK hX H z
  cases td with
  |nil=>exact yc hX H (td:=[]) (fun _ g=>g) (fun rs=>rfl) (hz L) e
  |cons x k=>
   cases x with
   |code cd=>exact yc hX H (td:=.code cd::k) (fun _ g=>g) (fun rs=>rfl) (hz L) e
   |_=>exact hz L e
 |GR l=>exact iK hX H e
theorem yp(hX:∀w0,W w0->fj P w0):∀f:Nat,vp P W (Xr P f)
 |0=>fun c h K td md _ e=>by cases e;exact nJ (r:=.stop c h K td md) ⟨rfl,rfl,rfl⟩ (aq ..)
 |f+1=>Sj hX (yp hX f)
end
end Go.Proofs.YtjfkdglgecgjfaaGreat.R
namespace Go.Proofs.YtjfkdglgecgjfaaGreat.R
open Go.RowKit
noncomputable section
def XR(x:AV):Bool:=match x with
 |.p (.bool true)=>true
 |_=>false
def R7(r:Rt):Bool:=match r with
 |.ret _ v=>XR v
 |.stop .. =>false
theorem U4{x:AV}(h:XR x=true):x=.p (.bool true):=by
 unfold XR at h;split at h
 . rfl
 . cases h
structure CS where
 c:Cx
 h:HS
 K:Tr AV
 td:List AI
def CS.run(P:Program)(n:Nat)(s:CS):cm:=Xr P n s.c s.h s.K s.td .run
def CS.rt(s:CS):Rt:=.stop s.c s.h s.K s.td .run
def NA(ids:List Nat)(nx:Nat)(r:Rt):Rt:=Rt.rec (motive:=fun _=>Rt) (fun h v=>.ret h v) (fun c h K td md=>.stop c ⟨xQ ids h.H,HP h.nx nx⟩ K td md) r
def zl(ids:List Nat)(nx:Nat)(a:cm):Option Rt:=km a fun l=>match l with
 |[x]=>some (NA ids nx x)
 |_=>none
def AX(P:Program)(f:FuncId):Option CS:=km (Ji P f) fun q=>some ⟨⟨0,[],f,q.2,[],.normal,none⟩,⟨.nil,0⟩,.nil,[.code q.1]⟩
def PU(P:Program)(f:FuncId)(ids:List Nat)(n:Nat):Option Rt:=km (AX P f) fun s=>zl ids 0 (s.run P n)
def YL(e:Nat)(s:n7):Rt:=.stop ⟨e,s.cs,s.fr.fn,s.fr.n,s.fr.ds,s.fr.kind,s.fr.rd⟩ s.h s.fr.K s.fr.todo s.fr.mode
def N4(P:Program)(ids:List Nat)(s:CS):Option (List Rt):=match fe P (s.c.st s.h s.K s.td .run)with
 |.many l=>some (l.map fun t=>NA ids 0 (YL s.c.e t))
 |_=>none
def Uo(a:cm):Bool:=match a with
 |some l=>l.all R7
 |none=>false
def fk(P:Program)(W:World->Prop)(s:CS):Prop:=∀w0,W w0->∀(cs0:List Frame) (m:Machine),EG w0 cs0 (s.c.st s.h s.K s.td .run) m->
 ∃r,R7 r=true/\∃s',MV P s.c.bf (s.c.cs.drop s.c.e) r s'/\∃m',Steps P m m'/\EG w0 cs0 s' m'
theorem Ur{P:Program}{W:World->Prop}(hX:∀w0,W w0->fj P w0){s:CS}{n:Nat}(h:Uo (s.run P n)=true):fk P W s:=by
 unfold Uo at h;split at h
 . rename_i l hs;intro w0 hw cs0 m hS;obtain⟨r,hr,h2⟩:=yp hX n _ _ _ _ _ _ hs w0 hw cs0 m hS;exact⟨r,aE.1 h r hr,h2⟩
 . cases h
theorem P4{P:Program}{W:World->Prop}{c:Cx}{h:HS}{K:Tr AV}{td:List AI}{md:AM}{t:CS}{ids:List Nat}{nx:Nat}(e:NA ids nx (.stop c h K td md)=t.rt)(g:fk P W t)
 {w0:World} (hw:W w0) {cs0:List Frame} {m:Machine} (hS:EG w0 cs0 (c.st h K td md) m):∃r,R7 r=true/\∃s',MV P c.bf (c.cs.drop c.e) r s'/\∃m',Steps P m m'/\EG w0 cs0 s' m':=by
 have h2:Rt.stop c ⟨xQ ids h.H,HP h.nx nx⟩ K td md=.stop t.c t.h t.K t.td .run:=e
 simp only[Rt.stop.injEq]at h2
 obtain⟨rfl,e2,rfl,rfl,rfl⟩:=h2
 have hc:T5 (t.c.st h t.K t.td .run) (t.c.st t.h t.K t.td .run):=by
  rw[<- e2];exact E5 (fun o=>Ay h.H o ids) (J6 h.nx nx).1
 exact g w0 hw cs0 m (hc w0 cs0 m hS)
theorem mY{P:Program}{W:World->Prop}(hX:∀w0,W w0->fj P w0){s t:CS}{ids:List Nat}{nx n:Nat}(h:zl ids nx (s.run P n)=some t.rt)(g:fk P W t):fk P W s:=by
 obtain⟨l,h1,h2⟩:=bV h;split at h2
 . rename_i x;have hg:=yp hX n _ _ _ _ _ _ h1;have h2:NA ids nx x=t.rt:=au h2
   cases x with
   |ret=>cases h2
   |stop c h' K td md=>
    intro w0 hw cs0 m hS
    obtain⟨r,hr,s1,hR,m1,k1,k2⟩:=hg w0 hw cs0 m hS
    rcases aB.1 hr with rfl|hr
    . obtain⟨rfl,e3,e4⟩:=hR
      obtain⟨q,q1,s2,q2,m2,q3,q4⟩:=P4 h2 g hw k2
      rw[e3,e4]at q2
      exact⟨q,q1,s2,q2,m2,k1.trans q3,q4⟩
    . cases hr
 . cases h2
theorem RQ{P:Program}{W:World->Prop}(hX:∀w0,W w0->fj P w0){s:CS}{ts:List CS}{ids:List Nat}(h:N4 P ids s=some (ts.map CS.rt))(g:∀t∈ts,fk P W t):fk P W s:=by
 unfold N4 at h;have hsh:=Gq (P:=P) (S:=s.c.st s.h s.K s.td .run);split at h
 . rename_i ss hs;have h:=au h;intro w0 hw cs0 m hS;have hst:=AZ (P:=P) (hX w0 hw) hS;rw[hs]at hst hsh;obtain⟨s1,hs1,m1,t1,t2⟩:=hst;have hm:NA ids 0 (YL s.c.e s1)∈ts.map CS.rt:=by rw[<- h];exact List.mem_map_of_mem hs1
   obtain⟨t,ht,e⟩:=List.mem_map.1 hm;obtain⟨e1,e2⟩:=hsh s1 hs1;have e1:s1.cs=s.c.cs:=e1;have e2:s1.fr.fn=s.c.fn:=e2;obtain⟨q,q1,s2,q2,m2,q3,q4⟩:=P4 (c:=⟨s.c.e,s1.cs,s1.fr.fn,s1.fr.n,s1.fr.ds,s1.fr.kind,s1.fr.rd⟩) (h:=s1.h) (K:=s1.fr.K) (td:=s1.fr.todo) (md:=s1.fr.mode) e.symm (g t ht) hw t2;refine⟨q,q1,s2,?_,m2,t1.trans q3,q4⟩;have hb:Cx.bf ⟨s.c.e,s1.cs,s1.fr.fn,s1.fr.n,s1.fr.ds,s1.fr.kind,s1.fr.rd⟩=s.c.bf:=by simp only[Cx.bf,e1,e2]
   rw[hb]at q2;simp only[e1]at q2;exact q2
 . cases h
def Tm(P:Program)(n k:Nat)(ids:List Nat)(nx:Nat)(t:CS):Option Rt:=km (CS.run P n {t with c:={t.c with e:=k}}) fun l=>match l,t.c.cs.drop k,Nat.ble (k+1) t.c.e with
 |[.ret h v],A::cs,true=>(bT A v).map fun A=>.stop ⟨t.c.e-(k+1),cs,A.fn,A.n,A.ds,A.kind,A.rd⟩ ⟨xQ ids h.H,HP h.nx nx⟩ A.K A.todo A.mode
 |_,_,_=>none
theorem II{P:Program}{W:World->Prop}(hX:∀w0,W w0->fj P w0){s t:CS}{ids:List Nat}{nx n k:Nat}(h:Tm P n k ids nx s=some t.rt)(g:fk P W t):fk P W s:=by
 obtain⟨l,h1,h2⟩:=bV h;split at h2
 . rename_i hh v A cs hd hb;simp only[ab]at h2;obtain⟨A',hA,h2⟩:=h2;have hle:=aj hb;have hg:=yp hX n _ _ _ _ _ _ h1;intro w0 hw cs0 m hS;obtain⟨r,hr,s1,hR,m1,k1,k2⟩:=hg w0 hw cs0 m hS;rcases aB.1 hr with rfl|hr
   . have hR:M1 P _ (s.c.cs.drop k) (hh,v) s1:=hR;rw[hd]at hR;obtain⟨A2,hA2,rfl⟩:=hR;have hA2:bT A v=some A2:=hA2;rw[hA]at hA2;cases hA2;have hfn:=jK hA;obtain⟨q,q1,s2,q2,m2,q3,q4⟩:=P4 (c:=⟨s.c.e-(k+1),cs,A'.fn,A'.n,A'.ds,A'.kind,A'.rd⟩) (h:=hh) (K:=A'.K) (td:=A'.todo) (md:=A'.mode) (ids:=ids) (nx:=nx) h2 g hw k2;refine⟨q,q1,s2,?_,m2,k1.trans q3,q4⟩;have e1:cs.drop (s.c.e-(k+1))=s.c.cs.drop s.c.e:=by
      have:cs=s.c.cs.drop (k+1):=by rw[<- List.drop_drop,hd];rfl
      rw[this,List.drop_drop];congr 1;omega
     have e2:Cx.bf ⟨s.c.e-(k+1),cs,A'.fn,A'.n,A'.ds,A'.kind,A'.rd⟩=s.c.bf:=by
      obtain⟨d,hd'⟩:∃d,s.c.e=d+(k+1):=⟨s.c.e-(k+1),by omega⟩;have hm:A'.fn::cs.map (·.fn)=(s.c.cs.map (·.fn)).drop k:=by rw[<- List.map_drop,hd,aF,hfn]
      unfold Cx.bf;simp only;rw[hm,hd',List.getElem?_drop,show d+(k+1)=(k+d)+1 by omega,List.getElem?_cons_succ];congr 1;omega
     rw[e2]at q2;simp only[e1]at q2;exact q2
   . cases hr
 . cases h2
theorem AY{P:Program}{W:World->Prop}(hX:∀w0,W w0->fj P w0){f:FuncId}{t:CS}{ids:List Nat}{n:Nat}(h:PU P f ids n=some t.rt)(g:fk P W t):∃s,AX P f=some s/\fk P W s:=by
 obtain⟨s,h1,h2⟩:=bV h;exact⟨s,h1,mY hX h2 g⟩
theorem IA{P:Program}{W:World->Prop}{f:FuncId}(h:∃s,AX P f=some s/\fk P W s):∃A,qt P f [] .normal=some A/\∀w0,W w0->∀(cs0:List Frame) (m:Machine),EG w0 cs0 ⟨⟨.nil,0⟩,A,[]⟩ m->
 ∃r,R7 r=true/\∃s',MV P (some f) [] r s'/\∃m',Steps P m m'/\EG w0 cs0 s' m':=by
 obtain⟨s,h,g⟩:=h
 obtain⟨⟨c,k⟩,h1,h2⟩:=bV h
 cases h2
 simp only[Ji,aa,ab]at h1
 obtain⟨fn,e1,c',e2,e3⟩:=h1
 cases e3
 exact⟨⟨f,fn.ntmps,.nil,[.code c],[],.run,.normal,none⟩,by simp only[qt,e1,e2,Lo,ae,List.length_nil,show ∀n,Nat.ble 0 n=true from fun n=>rfl],g⟩
theorem PO{P:Program}{W:World->Prop}{f:FuncId}(h:∃s,AX P f=some s/\fk P W s)(m:Mem)(hw:W m.w):Spec P f #[] m [] fun v _ L'=>L'=[]/\v=.bool true:=by
 obtain⟨A,hA,hg⟩:=IA h
 ·
  have hfr:FR (fun _=>none) A (Frame.enter P f #[] .normal) []:=uj (aS:=[]) hA rfl
  intro cs
  have hS:EG m.w cs ⟨⟨.nil,0⟩,A,[]⟩ (lone (Frame.enter P f #[] .normal) cs m.w):=
   ⟨fun _=>none,Frame.enter P f #[] .normal,[],m.w,[],[],rfl,
    ⟨⟨rfl,rfl,rfl,Nat.le_refl _,fun _ _=>rfl⟩,fun o x q hx _=>(by rw[get_nil]at hx;cases hx),fun o o' x x' q q' hx=>(by rw[get_nil]at hx;cases hx),fun o q hq=>(by cases hq),fun o _=>⟨rfl,get_nil o⟩⟩,
    hfr,.nil,⟨List.nodup_nil,fun q hq=>by cases hq⟩⟩
  obtain⟨r,hT,s,hR,m',hst,hS'⟩:=hg m.w hw cs _ hS
  cases r with
  |stop=>cases hT
  |ret qh qv=>
  obtain⟨hfn,hh,hcs,hmode,hds,hkind,fn,vs,e1,e2,e3,e4⟩:=hR
  obtain⟨ρ,fr,cs',w,u,us,rfl,H,hf,hcs',hF⟩:=hS'
  have hT:=U4 (show XR qv=true from hT)
  have e4:qv=Ig vs:=e4
  rw[hcs]at hcs'
  cases hcs'
  rw[hh]at H
  obtain⟨v,k1,k2⟩:=tu (P:=P) (s:=s) (by rw[hh];exact H) hf (by rw[hh];exact e2) e3
  rw[<- e4,hT]at k2
  simp only[conv,af]at k2
  subst k2
  have hfm:=hf.mode
  rw[hmode]at hfm
  simp only[fc,af]at hfm
  have hfd:=hf.ds
  rw[hds]at hfd
  simp only[fo,af]at hfd
  cases hfn
  refine⟨.returned (.bool true),w,fr,⟨.bool true,⟨w,m.im⟩,[],rfl,rfl,?_,rfl,rfl⟩,hst,hf.fn,⟨hfm.symm,hfd.symm,by rw[hf.kind,hkind],fn,by rw[hf.fn];exact e1,k1⟩⟩
  have hO:=H.out
  have hc:∀b o,b<m.w.heap.size->w.cell? ⟨b,o,none⟩=m.w.cell? ⟨b,o,none⟩:=fun b o hb=>by
   simp only[World.cell?,hO.kept b hb]
  exact⟨⟨hO.os,hO.tape,hO.output,hO.size,fun b o hb=>⟨⟨hb.1,Nat.lt_of_lt_of_le hb.2 hO.size⟩,hc b o hb.2⟩⟩,
   fun b hb _=>hO.kept b hb,fun b o hb=>by
    rcases Nat.lt_or_ge b m.w.heap.size with k|k
    . exact .inl ⟨hb.1,k⟩
    . exact .inr (.inl k),
   Ow.nil _,fun b hb=>by cases hb⟩
def xi(n:Nat):AV:=.p (.int .i64 (.ofNat n))
def xu(n:Nat):AV:=.p (.int .u8 (.ofNat n))
def xn(k:IntKind)(n:Nat):AV:=.p (.int k (.ofNat n))
def xt:AV:=.p (.bool true)
def xf:AV:=.p (.bool false)
def xU(l:List Nat):List AV:=List.rec (motive:=fun _=>List AV) [] (fun n _ r=>xu n::r) l
def xr(o f:Nat):AV:=.ptr o f
def xs(o f n z:Nat):AV:=.sl o f n none z
section
variable {α:Type}
def to:Tr α:=.nil
def tl(v:α):Tr α:=.nd (some v) .nil .nil .nil .nil
def tn(v:α)(a b c d:Tr α):Tr α:=.nd (some v) a b c d
def tm(a b c d:Tr α):Tr α:=.nd none a b c d
end
def XX:List Nat->Code->Code
 |[],c=>c
 |0::p,.seq a _|0::p,.cond _ a _|0::p,.block _ a|0::p,.loop a|0::p,.scope a|0::p,.rangeFunc _ _ a _=>XX p a
 |_::p,.seq _ b|_::p,.cond _ _ b|_::p,.rangeFunc _ _ _ b=>XX p b
 |_::_,_=>.skip
def cd(P:Program)(f:Nat)(p:List Nat):Code:=match P.funcs[f]? with
 |some fn=>(match fn.body with|some c=>XX p c|none=>.skip)
 |none=>.skip
def od(P:Program)(f:Nat)(p:List Nat):Array Oper:=match cd P f p with
 |.region _ ops _=>ops
 |_=> #[]
end
end Go.Proofs.YtjfkdglgecgjfaaGreat.R
namespace Go.Proofs.YtjfkdglgecgjfaaGreat
section
open Go.RowKit Go.Shelf G
namespace E
variable {S:Nat->Type}{tb:Tb S}
theorem zY(a:List UInt8):Lib.bytesOf (a.map fun c=>(c.toNat:Int))=a:=by
 unfold Lib.bytesOf;rw[List.map_map]
 conv=>rhs;rw[<- List.map_id a]
 exact List.map_congr_left fun c _=>by simp
theorem GF(l:List UInt8):∀x∈l.map fun c=>(c.toNat:Int),0<=x/\x<256:=by
 intro x hx;obtain⟨c,_,rfl⟩:=List.mem_map.1 hx;have:=c.toNat_lt;omega
end E
end
section
def FH:Go.Shelf.Ren:=⟨fun|185=>139|187=>186|115=>152|253=>187|224=>188|254=>189|255=>233|291=>234|n=>n,fun|37=>38|3=>3|4=>4|0=>0|5=>5|46=>238|9=>9|146=>313|51=>202|n=>n,fun|1=>0|n=>n⟩
theorem Sc:Go.Proofs.Lays.n185 Tryz.prog FH:={
 mixed:=by kernel_rfl
 f115:=Tryz.func152.trans (congrArg some (by kernel_rfl))
 f185:=Tryz.func139.trans (congrArg some (by kernel_rfl))
 f187:=Tryz.func186.trans (congrArg some (by kernel_rfl))
 f224:=Tryz.func188.trans (congrArg some (by kernel_rfl))
 f253:=Tryz.func187.trans (congrArg some (by kernel_rfl))
 f254:=Tryz.func189.trans (congrArg some (by kernel_rfl))
 f255:=Tryz.func233.trans (congrArg some (by kernel_rfl))
 f291:=Tryz.func234.trans (congrArg some (by kernel_rfl))
 t0:=Tryz.underlying0
 a0:=Tryz.isAgg0
 z0:=Tryz.sizeOf0
 v0:=Tryz.zeroValue0
 t3:=Tryz.underlying3
 a3:=Tryz.isAgg3
 z3:=Tryz.sizeOf3
 v3:=Tryz.zeroValue3
 t4:=Tryz.underlying4
 a4:=Tryz.isAgg4
 z4:=Tryz.sizeOf4
 v4:=Tryz.zeroValue4
 t5:=Tryz.underlying5
 a5:=Tryz.isAgg5
 z5:=Tryz.sizeOf5
 v5:=Tryz.zeroValue5
 t9:=Tryz.underlying9
 a9:=Tryz.isAgg9
 z9:=Tryz.sizeOf9
 v9:=Tryz.zeroValue9
 t37:=Tryz.underlying38
 a37:=Tryz.isAgg38
 z37:=Tryz.sizeOf38
 v37:=Tryz.zeroValue38
 t46:=Tryz.underlying238
 a46:=Tryz.isAgg238
 z46:=Tryz.sizeOf238
 v46:=Tryz.zeroValue238
 t51:=Tryz.underlying202
 a51:=Tryz.isAgg202
 z51:=Tryz.sizeOf202
 v51:=Tryz.zeroValue202
 t146:=Tryz.underlying313
 a146:=Tryz.isAgg313
 z146:=Tryz.sizeOf313
 v146:=Tryz.zeroValue313
 g1:=by kernel_rfl}
end
section
open Go.RowKit G
open E
set_option maxRecDepth 100000
noncomputable section
def Wk:gj Sx:={f:=224,ins:=[.one (.hU (.int .u32)),.one (.hU (.int .i64))],ls:=[(.int .u32),(.int .i64)],outs:=[{out:=.one (.hU (.int .u32)),sD:=[(.int .u32)]}],D0:=fun x=>fM x.1 x.2}
theorem VH:SX Wk:=fq Tryz.f224 [.tmp 4] {fn:=224} .o (bQ)
end
end
end Go.Proofs.YtjfkdglgecgjfaaGreat
namespace Go.Proofs.YtjfkdglgecgjfaaGreat.R
open Go.RowKit Go.Shelf G
section
variable {w0 w:World}{ρ:jE}{h:HS}
theorem Jk:∀{l:List AV} {b:List UInt8} {us:List Value},Ly l=some b->bO ρ l=some us->us.length=b.length/\∀i,i<b.length->us[i]?=some (.int .u8 ((b.map fun c=>(c.toNat:Int)).getD i 0))
 |[],b,us,e,hc=>by
  cases e;simp only[bO,af]at hc;subst hc;exact⟨rfl,fun i hi=>by cases hi⟩
 |x::l,b,us,e,hc=>by
  obtain⟨u,us,rfl,h1,h2⟩:=cR hc;unfold Ly at e;split at e
  . rename_i heq;cases heq
  . rename_i n l' heq;cases heq;split at e
    . rename_i hn;simp only[ab]at e;obtain⟨b',e1,rfl⟩:=e;obtain⟨k1,k2⟩:=Jk e1 h2;rw[dg h1];refine⟨by simp only[bp,k1],fun i hi=>?_⟩
      cases i with
      |zero=>
       have hle:=aj hn
       simp only[List.getElem?_cons_zero,aF,List.getD_cons_zero,af,Value.int.injEq,true_and]
       have:(UInt8.ofNat n).toNat=n:=by simp only[UInt8.toNat_ofNat'];omega
       rw[this];rfl
      |succ i=>
       simp only[List.getElem?_cons_succ,aF,List.getD_cons_succ]
       exact k2 i (Nat.lt_of_succ_lt_succ hi)
    . cases e
  . cases e
theorem N6{k:IntKind}{i:Int}{v:AV}(e:Fo k i=some v):v=.p (.int k i):=by
 cases i with
 |ofNat n=>cases n<;>(cases e;rfl)
 |negSucc n=>cases e;rfl
theorem N5{k:IntKind}{n:Nat}{v:AV}(e:uy k n=some v):v=.p (.int k (n:Int)):=by
 cases n<;>(cases e;rfl)
theorem Kv(H:WR w0 ρ h w){o f n z:Nat}{c:Option Nat}{x:Value}{a:List AV}{b:List UInt8}(hx:conv ρ (.sl o f n c z)=some x)(e:qK h 1 n (.sl o f n c z)=some a)(e2:Ly a=some b):
 ∃ad cap,x=.slice (some ad) n cap/\b.length=n/\(∀i,i<n->w.cell? (ad.add i)=some (.int .u8 ((b.map fun c=>(c.toNat:Int)).getD i 0)))/\(Wl n z c=true->n<=cap):=by
 simp only[qK,aa]at e
 obtain⟨cs,e1,e3⟩:=e
 obtain⟨L,hL,rfl⟩:=fG hx
 have ho:=H.obj _ _ _ (eN e1) hL
 obtain⟨us,k1,k2,k3⟩:=og ho e3
 obtain⟨k4,k5⟩:=Jk e2 k1
 rw[Nat.mul_one]at k2
 refine⟨_,_,rfl,by omega,fun i hi=>k3 i _ (k5 i (by omega)),fun hb=>?_⟩
 cases c with
 |some cc=>exact aj hb
 |none=>
  have hz:=ah (show Nat.beq z 1=true from hb)
  subst hz
  obtain⟨_,_,_,_,_,_,o4,_,_⟩:=ho
  obtain⟨rfl,e5⟩:=ru e3
  rw[aH,ba]at e5
  show n<=(L.n-f)/1
  rw[Nat.div_one]
  omega
theorem UZ{P:Program}{r:Go.Shelf.Ren}(L:Lays.n185 P r){m:Int}(hm:w.cell? ⟨r.g 1,0,none⟩=some (.int .i64 m))(H:WR w0 ρ h w){args:List AV}{vs:List Value}{v:AV}(e:UX h args=some v)(hc:bO ρ args=some vs):
 Calls P (r.f 185) vs.toArray w fun e w'=>∃u,e=.returned u/\conv ρ v=some u/\mR w w'/\∀b,b<w.heap.size->w'.heap[b]?=w.heap[b]?:=by
 unfold UX at e
 split at e
 . split at e
   . rename_i hb
     simp only[al]at hb
     obtain⟨⟨b1,b2⟩,b3⟩:=hb
     simp only[aa]at e
     obtain⟨x,e1,a,e2,y,e3,b,e4,e5⟩:=e
     obtain⟨x',as1,rfl,h1,hc⟩:=cR hc
     obtain⟨y',as2,rfl,h2,hc⟩:=cR hc
     simp only[bO,af]at hc
     subst hc
     obtain⟨ad1,c1,rfl,l1,k1,kc⟩:=Kv H h1 e1 e2
     obtain⟨ad2,c2,rfl,l2,k2,_⟩:=Kv H h2 e3 e4
     have:=Any.bytes_Index_at L ad1 ad2 _ c1 _ c2 (a.map fun c=>(c.toNat:Int)) (b.map fun c=>(c.toNat:Int)) m w (by rw[aP,l1]) (by rw[aP,l2]) (E.GF a) (E.GF b) k1 k2 (kc b1)
      (Nat.lt_succ_of_le (aj b2)) (aj b3) hm
     refine this.mono fun e w' ⟨he,q,hw⟩=>⟨_,he,?_,?_,?_⟩
     . rw[E.zY,E.zY,N6 e5];rfl
     . subst hw;exact⟨rfl,rfl,rfl,Nat.le_refl _⟩
     . subst hw;exact fun _ _=>rfl
   . cases e
 . cases e
end
theorem Ue(k:Int):G4 .u64 (IntKind.u64.wrap k) 31=((Int.toNat (Int.emod k 32):Nat):Int):=by
 have e:(BitVec.ofInt 64 (IntKind.u64.wrap k) &&& BitVec.ofInt 64 31).toNat=Int.toNat (Int.emod k 32):=by
  rw[BitVec.toNat_and,BitVec.toNat_ofInt,BitVec.toNat_ofInt,show((31:Int) % ((2 ^ 64:Nat):Int)).toNat=2 ^ 5-1 from rfl,Nat.and_two_pow_sub_one_eq_mod];show((k % 18446744073709551616) % 18446744073709551616).toNat % 32=(k % 32).toNat;omega
 show IntKind.u64.wrap (((BitVec.ofInt 64 (IntKind.u64.wrap k) &&& BitVec.ofInt 64 31).toNat:Nat):Int)=_;rw[e];show((Int.toNat (k % 32):Nat):Int) % 18446744073709551616=((Int.toNat (k % 32):Nat):Int);omega
theorem SK(a:Nat)(k:Int):fM (a:Int) k=some ((Gg a (Int.toNat (Int.emod k 32)):Nat):Int):=by
 have hs:Int.toNat (Int.emod k 32)<32:=by show(k % 32).toNat<32;omega
 unfold fM;simp only[Ue];generalize Int.toNat (Int.emod k 32)=s at hs;have e2:IntKind.u64.wrap ((32:Int)-(s:Int))=((32-s:Nat):Int):=by
  show((32:Int)-(s:Int)) % 18446744073709551616=_;omega
 rw[e2];have c1:l9 (0<=(s:Int))=some ():=by unfold l9;rw[if_pos (by omega)]
 have c2:l9 (0<=((32-s:Nat):Int))=some ():=by unfold l9;rw[if_pos (by omega)]
 rw[c1,c2];simp only[ae,af];have e3:xK .u32 (a:Int) (s:Int)=((a*2 ^ s % 4294967296:Nat):Int):=by
  show((a:Int)*2 ^ (min (Int.toNat (s:Int)) 32)) % 4294967296=_;rw[aK,Nat.min_eq_left (by omega)];rw[Int.natCast_emod,Int.natCast_mul,Int.natCast_pow];rfl
 have e4:o7 .u32 (a:Int) ((32-s:Nat):Int)=((a/2 ^ (32-s):Nat):Int):=by
  show(a:Int).fdiv (2 ^ (min (Int.toNat ((32-s:Nat):Int)) 32))=_;rw[aK,Nat.min_eq_left (by omega),Int.fdiv_eq_ediv_of_nonneg _ (Int.le_of_lt (Int.pow_pos (by decide)))];rw[Int.natCast_ediv,Int.natCast_pow];rfl
 rw[e3,e4];show IntKind.u32.wrap (((BitVec.ofInt 32 _ ||| BitVec.ofInt 32 _).toNat:Nat):Int)=_;rw[BitVec.ofInt_natCast,BitVec.ofInt_natCast,BitVec.toNat_or,BitVec.toNat_ofNat,BitVec.toNat_ofNat];show(((a*2 ^ s % 4294967296 % 4294967296 ||| a/2 ^ (32-s) % 4294967296:Nat):Int)) % 4294967296=_;have e5:(a*2 ^ s % 4294967296 % 4294967296 ||| a/2 ^ (32-s) % 4294967296)=Gg a s:=by
  show _=(a <<< s ||| a >>> (32-s)) % 4294967296;rw[Nat.mod_mod,Nat.shiftLeft_eq,Nat.shiftRight_eq_div_pow,show 4294967296=2 ^ 32 from rfl,Nat.or_mod_two_pow]
 rw[e5];have:Gg a s<4294967296:=Nat.mod_lt _ (by decide);omega
def Wd(w:World):Prop:=∃v:Int,w.cell? ⟨0,0,none⟩=some (.int .i64 v)
theorem Mp{w:World}(hw:Wd w)(a:Nat)(k:Int):Calls Tryz.prog Dd #[.int .u32 (a:Int),.int .i64 k] w fun e w'=>∃u,e=.returned u/\u=.int .u32 ((Gg a (Int.toNat (Int.emod k 32)):Nat):Int)/\mR w w'/\∀b,b<w.heap.size->w'.heap[b]?=w.heap[b]?:=by
 obtain⟨v,hv⟩:=hw;have h:=VH.go ((a:Int),k) ((Gg a (Int.toNat (Int.emod k 32)):Nat):Int) (fun _=>none) (Mem.all w) [.int .u32 (a:Int),.int .i64 k] [] (SK a k) (fun _ _=>rfl)
  (fun ds args ds1 eZ ds2 h1 h2 h3=>by
   have h1:some [(⟨.int .u32,(a:Int)⟩:E.fC E.Sx),⟨.int .i64,k⟩]=some ds:=h1;cases h1;have h2:some ([E.AV.one (.int .u32 (a:Int)),.one (.int .i64 k)],([]:List (E.fC E.Sx)))=some (args,ds1):=h2;cases h2;have h3:some (([]:List (E.AO E.Sx)),([]:List (E.fC E.Sx)))=some (eZ,ds2):=h3;cases h3;refine⟨?_,rfl⟩;simp only[E.cF];exact⟨_,_,rfl,by simp only[E.bI,E.bH],_,_,rfl,by simp only[E.bI,E.bH],rfl⟩) rfl (Ow.nil _) ⟨Go.Proofs.YtjfkdglgecgjfaaGreat.pW hv,v,hv⟩
 have h:E.pT Tryz.prog Dd _ _ _:=h;unfold E.pT at h;rw[if_pos (by decide)]at h;refine h.2.mono fun e w' ⟨u,m',L',he,hm,hS,hp⟩=>?_
 obtain⟨EH,Ln,_,_,_,hp⟩:=hp;have hp:=(hp (E.MO EH) id [⟨.int .u32,((Gg a (Int.toNat (Int.emod k 32)):Nat):Int)⟩] (.one (.int .u32 ((Gg a (Int.toNat (Int.emod k 32)):Nat):Int))) [] [] (fun i h hh=>hh) rfl rfl rfl).1;simp only[E.bI,E.bH,bg,and_true]at hp;subst hm;exact⟨u,he,hp,⟨hS.le.os,hS.le.tape,hS.le.output,hS.le.size⟩,fun b hb=>hS.kept b hb (by intro h;cases h)⟩
theorem iQ(w0:World)(hw:Wd w0):fj Tryz.prog w0:=by
 intro f h args v ρ w vs e H hc;obtain⟨mv,hmv⟩:=hw;have hw1:w.cell? ⟨0,0,none⟩=some (.int .i64 mv):=by
  have hlt:0<w0.heap.size:=(Go.Proofs.YtjfkdglgecgjfaaGreat.pW hmv).2;simp only[World.cell?,H.out.kept 0 hlt]at hmv ⊢;exact hmv
 unfold xH at e;split at e
 . rename_i hb;unfold WC at e;split at e
   . rename_i hr;cases ah hr;unfold Xq at e;split at e
     . rename_i a k;obtain⟨x',as1,rfl,h1,hc⟩:=cR hc;obtain⟨y',as2,rfl,h2,hc⟩:=cR hc;simp only[bO,af]at hc;subst hc;rw[dg h1,dg h2];refine(Mp ⟨mv,hw1⟩ a k).mono fun e' w' ⟨u,he,hu,hs⟩=>⟨u,he,?_,hs⟩
       rw[N5 e,hu];rfl
     . cases e
   . rename_i hr;have hf:f=NS:=by
      unfold UE at hb;rw[hr,Bool.false_or]at hb;exact ah hb
     subst hf;exact UZ Sc hw1 H e hc
 . cases e
theorem Ms{f:FuncId}(hle:Nat.ble f 999999=true)(hen:Enters Tryz.prog f)(hg:∃s,AX Tryz.prog f=some s/\fk Tryz.prog Wd s):
 E.Sound Tryz.prog E.KT ({f:=f,ins:=[],ls:=[],outs:=[{out:=.one (.hU .bo),sD:=[.bo]}],D0:=fun _=>some true}:E.gj E.Sx):=by
 refine⟨fun x y bk m vals Lx hsem hbk GP hLn hO hBm=>?_⟩
 obtain rfl:Lx=[]:=List.length_eq_zero_iff.1 hLn
 have h0:=(GP [] [] [] [] [] rfl rfl rfl).1
 simp only[E.cF]at h0
 subst h0
 have hy:=au hsem
 unfold E.pT
 rw[if_pos (aj hle)]
 refine⟨hen,Calls.mono (PO hg m hBm.2) fun e w' ⟨v,m',L',he,hm,hS,hL,hv⟩=>?_⟩
 subst hL
 refine⟨v,m',[],he,hm,hS,?_⟩
 show E.I2 E.KT 0 _ bk [] y _ m' []
 refine⟨fun _=>none,[],rfl,fun i hi=>absurd hi (by omega),fun _ _=>rfl,fun g ids ds out ds1 l _ hd hfill houts=>?_⟩
 have hd:some [(⟨.bo,y⟩:E.fC E.Sx)]=some ds:=hd
 cases hd
 have hfill:some (E.AV.one (E.Q5 (show Bool from y)),([]:List (E.fC E.Sx)))=some (out,ds1):=hfill
 cases hfill
 have houts:some ([]:List (Nat×E.AO E.Sx))=some l:=houts
 cases houts
 exact⟨by simp only[E.bI,E.Q5,E.bH];rw[hv,<- hy],rfl⟩
end Go.Proofs.YtjfkdglgecgjfaaGreat.R
namespace Go.Proofs.YtjfkdglgecgjfaaGreat.R
open Go
noncomputable section
def cq(f:Nat)(p:List Nat):Code:=cd Tryz.prog f p
def oq(f:Nat)(p:List Nat):Array Oper:=od Tryz.prog f p
end
end Go.Proofs.YtjfkdglgecgjfaaGreat.R
