/- Part of the proof. -/
import Derived.Test.YtjfkdglgecgjfaaGreatZRH
import Derived.Shelf.Bytes.SlIndexWhole
import Derived.Test.YtjfkdglgecgjfaaGreatZET
import Derived.KernelRfl
namespace Go.Proofs.YtjfkdglgecgjfaaGreat.R
open Go.RowKit
def IP(P:Program)(f:Option FuncId)(B:List AF)(q:HS×AV)(s:mn):Prop:=match B with
 |A::cs=>∃A',bH A q.2=some A'/\s=⟨q.1,A',cs⟩
 |[]=>f=some s.fr.fn/\s.h=q.1/\s.cs=[]/\s.fr.mode=.ret/\s.fr.ds=[]/\s.fr.kind=.normal/\
  ∃fn vs,P.funcs[s.fr.fn]?=some fn/\tk P q.1 s.fr.K fn.results.toList=some vs/\vy s.fr.todo fn.results.toList=true/\q.2=Cr vs
def Cx.bf(c:Cx):Option FuncId:=(c.fn::c.cs.map (·.fn))[c.e]?
def FT(P:Program)(f:Option FuncId)(B:List AF)(r:Rt)(s:mn):Prop:=match r with
 |.ret h v=>IP P f B (h,v) s
 |.stop c h K td md=>s=c.st h K td md/\c.bf=f/\c.cs.drop c.e=B
def Good(P:Program)(W:World->Prop)(s:mn)(f:Option FuncId)(B:List AF)(l:List Rt):Prop:=∀w0,W w0->∀(cs0:List Frame) (m:Machine),yY w0 cs0 s m->∃r∈l,∃s',FT P f B r s'/\∃m',Steps P m m'/\yY w0 cs0 s' m'
def K9(P:Program)(W:World->Prop)(s:mn)(f:Option FuncId)(B:List AF)(l:List (HS×AV)):Prop:=∀w0,W w0->∀(cs0:List Frame) (m:Machine),yY w0 cs0 s m->∃q∈l,∃s',IP P f B q s'/\∃m',Steps P m m'/\yY w0 cs0 s' m'
def L9(s t:mn):Prop:=∀(w0:World) (cs0:List Frame) (m:Machine),yY w0 cs0 s m->yY w0 cs0 t m
def ri(P:Program)(W:World->Prop)(ih:mF):Prop:=∀c h K td md l,ih c h K td md=some l->Good P W (c.st h K td md) c.bf (c.cs.drop c.e) l
def fns(s:mn):List FuncId:=s.fr.fn::s.cs.map (·.fn)
def CN(S:mn):ek->Prop
 |.one s=>s.cs.drop 1=S.cs.drop 1/\(S.fr.kind≠ .deferred->s.cs=S.cs)/\fns s=fns S
 |.push s=>s.cs.drop 1=S.cs/\(fns s).drop 1=fns S
 |.pop s=>(∃x,S.cs=x::s.cs)/\(fns S).drop 1=fns s
 |.many l=>∀s∈l,s.cs=S.cs/\s.fr.fn=S.fr.fn
 |_=>True
section
variable {P:Program}{S S':mn}{r:ek}
theorem CN.of(h:CN S' r)(e1:S'.cs=S.cs)(e2:S'.fr.kind=S.fr.kind)(e3:S'.fr.fn=S.fr.fn):CN S r:=by
 cases r<;>simp only[CN,fns,e1,e2,e3]at h ⊢ <;>exact h
theorem fJ{x:Option ek}{why:String}(hx:∀y,x=some y->CN S y):CN S (gj why x):=by
 cases x with
 |none=>trivial
 |some y=>exact hx y rfl
theorem iL{A A':AF}{v:AV}(h:bH A v=some A'):A'.fn=A.fn:=by
 unfold bH at h;split at h
 . simp only[ab]at h;obtain⟨_,_,rfl⟩:=h;rfl
 . simp only[ab]at h;obtain⟨_,_,rfl⟩:=h;rfl
 . cases h;rfl
 . cases h
theorem AH{A:AF}{l:List (AV×Bool)}:(sj A l).fn=A.fn:=by unfold sj;split<;>rfl
theorem E3{α β:Type}{f:α->Option β}:∀{l:List α} {ls:List β} {y:β},l.mapM f=some ls->y∈ls->∃x∈l,f x=some y:=by
 intro l
 induction l with
 |nil=>intro ls y e h;simp at e;subst e;cases h
 |cons a l ih=>
  intro ls y e h
  simp only[List.mapM_cons,Option.bind_eq_bind,aa,Option.pure_def,ae]at e
  obtain⟨b,h1,oV,h2,rfl⟩:=e
  rcases aA.1 h with rfl|h
  . exact⟨a,aq ..,h1⟩
  . obtain⟨x,h3,h4⟩:=ih h2 h
    exact⟨x,au _ h3,h4⟩
theorem da{fr:AF}{h:HS}(e:fr.fn=S.fr.fn):CN S (.one ⟨h,fr,S.cs⟩):=⟨rfl,fun _=>rfl,by simp only[fns,e]⟩
theorem jT{f:AF->mn}{v:AV}(hf:∀fr,(f fr).cs=S.cs)(hg:∀fr,fr.fn=S.fr.fn->(f fr).fr.fn=S.fr.fn):CN S (gj "finish" ((bH S.fr v).map fun fr=>.one (f fr))):=fJ fun y hy=>by
 simp only[ab]at hy;obtain⟨fr,h1,rfl⟩:=hy;exact⟨by rw[hf],fun _=>hf fr,by simp only[fns,hf,hg fr (iL h1)]⟩
theorem Fz(r:AR):CN S (fu P S r):=by
 cases r with
 |val v=>exact jT (fun _=>rfl) fun _ e=>e
 |new x mk=>exact jT (fun _=>rfl) fun _ e=>e
 |fX v h=>exact jT (fun _=>rfl) fun _ e=>e
 |many l=>
  refine fJ fun y hy=>?_
  simp only[ab]at hy
  obtain⟨ls,h1,rfl⟩:=hy
  intro s hs
  obtain⟨x,_,h2⟩:=E3 h1 hs
  simp only[ab]at h2
  obtain⟨fr,h3,rfl⟩:=h2
  exact⟨rfl,iL h3⟩
 |enter f args=>
  unfold fu
  simp only
  split
  . exact jT (fun _=>rfl) fun _ e=>e
  . refine fJ fun y hy=>?_
    simp only[ab]at hy
    obtain⟨fr,_,rfl⟩:=hy
    exact⟨rfl,rfl⟩
 |round o args=>
  refine fJ fun y hy=>?_
  simp only[aa]at hy
  obtain⟨x,_,hy⟩:=hy
  split at hy
  . simp only[ab]at hy
    obtain⟨fr,_,rfl⟩:=hy
    exact⟨rfl,rfl⟩
  . cases hy
 |defer d=>
  unfold fu
  split
  . rename_i heq;cases heq
  all_goals first|trivial|skip
  all_goals try(rename_i heq;cases heq)
  split
  . exact jT (fun _=>rfl) fun _ e=>e
  . trivial
 |panic v=>exact da AH
 |recover=>
  unfold fu
  simp only
  split
  . rename_i hk hc
    split
    . refine fJ fun y hy=>?_
      simp only[ab]at hy
      obtain⟨fr,h1,rfl⟩:=hy
      exact⟨by rw[hc];rfl,fun hn=>absurd hk hn,by simp only[fns,hc,iL h1,aD]⟩
    . exact jT (fun _=>rfl) fun _ e=>e
  . exact jT (fun _=>rfl) fun _ e=>e
  . trivial
theorem vL{ops:Array Oper}{i:Nat}{mx:Oper->Tr AV}:CN S (mb P S ops i mx):=by
 unfold mb;split
 . trivial
 . split
   . trivial
   . exact jT (fun _=>rfl) fun _ e=>e
   . split
     . exact Fz _
     . trivial
theorem ox{j:Option Code}:CN S (hG S j):=by
 unfold hG;split
 . split<;>first|exact da rfl|trivial
 . refine fJ fun y hy=>?_
   simp only[aa]at hy;obtain⟨x,_,hy⟩:=hy;split at hy
   . rename_i hc _;simp only[ab]at hy;obtain⟨A,h1,rfl⟩:=hy;exact⟨⟨_,hc⟩,by simp only[fns,hc,iL h1,aD,List.drop_succ_cons,List.drop_zero]⟩
   . cases hy
theorem Ig{c:Code}{k:List AI}:CN S (gU P S c k):=by
 cases c with
 |skip=>exact da rfl
 |label l=>exact da rfl
 |ret=>show CN S (hG S (some .ret));exact ox
 |seq a b=>exact da rfl
 |cond x a b=>unfold gU;simp only;split<;>first|exact da rfl|trivial
 |block id b=>exact da rfl
 |loop b=>exact da rfl
 |scope b=>exact da rfl
 |exit id=>unfold gU;simp only;split<;>first|exact da rfl|exact ox
 |goto l=>unfold gU;simp only;split<;>first|exact da rfl|exact ox
 |region id ops dr=>cases dr with
  |false=>exact da rfl
  |true=>unfold gU;simp only;split<;>first|exact da rfl|trivial
 |rangeFunc f ps dV body=>
  refine fJ fun y hy=>?_
  simp only[aa]at hy
  obtain⟨q,_,v,_,hy⟩:=hy
  split at hy
  . split at hy
    . simp only[ab]at hy
      obtain⟨A,_,rfl⟩:=hy
      exact⟨rfl,rfl⟩
    . cases hy
  . cases hy
 |refuse w=>trivial
theorem Ih:CN S (ef P S):=by
 unfold ef;split
 . unfold jL;split
   . exact ox
   . exact Ig
   . exact da rfl
   . exact da rfl
   . exact da rfl
   . exact da rfl
   . exact vL
   . unfold kz;split
     . trivial
     . split
       . trivial
       . split
         . exact da rfl
         . exact(vL (P:=P)).of rfl rfl rfl
   . trivial
   . refine fJ fun y hy=>?_
     simp only[aa]at hy;obtain⟨x,_,hy⟩:=hy;split at hy
     . split at hy
       . cases hy
       . cases hy;exact da rfl
     . cases hy
   . refine fJ fun y hy=>?_
     simp only[aa]at hy;obtain⟨o,_,x,_,hy⟩:=hy;split at hy
     . cases hy;exact da rfl
     . cases hy
 . unfold oE;split
   . refine fJ fun y hy=>?_
     simp only[aa]at hy;obtain⟨x,_,hy⟩:=hy;split at hy
     . cases hy;exact da rfl
     . cases hy
   . split
     . split
       . refine fJ fun y hy=>?_
         simp only[ab]at hy;obtain⟨A,_,rfl⟩:=hy;exact⟨rfl,rfl⟩
       . trivial
     . trivial
   . split
     . trivial
     . split
       . rename_i hc _;exact⟨⟨_,hc⟩,by simp only[fns,hc,AH,aD,List.drop_succ_cons,List.drop_zero]⟩
       . trivial
     . split
       . trivial
       . rename_i hc;refine fJ fun y hy=>?_
         simp only[aa]at hy;obtain⟨fn,_,vs,_,hy⟩:=hy;split at hy
         . simp only[ab]at hy;obtain⟨A,h1,rfl⟩:=hy;exact⟨⟨_,hc⟩,by simp only[fns,hc,iL h1,aD,List.drop_succ_cons,List.drop_zero]⟩
         . cases hy;exact⟨⟨_,hc⟩,by simp only[fns,hc,aD,List.drop_succ_cons,List.drop_zero]⟩
         . cases hy
end
section
variable {P:Program}{W:World->Prop}{ih:mF}{c:Cx}{h:HS}{K:Tr AV}{td:List AI}{md:AM}{l:List Rt}{lv:List (HS×AV)}{s s':mn}{B:List AF}{f:Option FuncId}
theorem bJ{α β:Type}{x:Option α}{f:α->Option β}{r:β}(e:h9 x f=some r):∃a,x=some a/\f a=some r:=by
 cases x with
 |none=>cases e
 |some a=>exact⟨a,rfl,e⟩
theorem iI{α β γ:Type}{f:α->β->Option γ}{x:Option α}{y:Option β}{r:γ}(e:rl f x y=some r):∃a b,x=some a/\y=some b/\f a b=some r:=by
 cases x with
 |none=>cases e
 |some a=>
  cases y with
  |none=>cases e
  |some b=>exact⟨a,b,rfl,rfl,e⟩
theorem cS{a b:Bool}(h:gv a b=true):a=true/\b=true:=by cases a<;>cases b<;>first|exact⟨rfl,rfl⟩|cases h
theorem bO(hX:∀w0,W w0->ez P w0)(e:ef P s=.one s'\/ef P s=.push s'\/ef P s=.pop s')(g:Good P W s' f B l):Good P W s f B l:=by
 intro w0 hw cs0 m hS;have hst:=A5 (P:=P) (hX w0 hw) hS;have:∃m',Steps P m m'/\yY w0 cs0 s' m':=by
  rcases e with e|e|e<;>(rw[e]at hst;exact hst)
 obtain⟨m',t1,t2⟩:=this;obtain⟨q,h1,s2,h0,m2,h2,h3⟩:=g w0 hw cs0 m' t2;exact⟨q,h1,s2,h0,m2,t1.trans h2,h3⟩
theorem nY{r:Rt}(hr:FT P f B r s)(hq:r∈l):Good P W s f B l:=fun _ _ _ m hS=>⟨r,hq,s,hr,m,Steps.refl P _,hS⟩
theorem uI{L:List Rt}{B':List AF}{f':Option FuncId}(a:K9 P W s f' B' lv)(b:∀q∈lv,∀s',IP P f' B' q s'->Good P W s' f B L):Good P W s f B L:=by
 intro w0 hw cs0 m hS;obtain⟨q,h1,s1,h0,m1,h2,h3⟩:=a w0 hw cs0 m hS;obtain⟨q2,h4,s2,h5,m2,h6,h7⟩:=b q h1 s1 h0 w0 hw cs0 m1 h3;exact⟨q2,h4,s2,h5,m2,h2.trans h6,h7⟩
theorem zX(a:L9 s s')(b:Good P W s' f B l):Good P W s f B l:=fun w0 hw cs0 m hS=>b w0 hw cs0 m (a w0 cs0 m hS)
theorem D4:∀{l:List Rt} {lv:List (HS×AV)},Kr l=some lv->∀r∈l,∃q∈lv,r=.ret q.1 q.2
 |[],_,_,_,hr=>by cases hr
 |.ret h v::l,lv,e,r,hr=>by
  obtain⟨l1,h1,h2⟩:=bJ (show h9 (Kr l) (fun l=>some ((h,v)::l))=some lv from e);cases h2;rcases aA.1 hr with rfl|hr
  . exact⟨(h,v),aq ..,rfl⟩
  . obtain⟨q,h3,h4⟩:=D4 h1 r hr;exact⟨q,au _ h3,h4⟩
 |.stop .. ::l,_,e,_,_=>by cases e
theorem zY(g:Good P W s f B l)(e:∀r∈l,∃q∈lv,r=.ret q.1 q.2):K9 P W s f B lv:=by
 intro w0 hw cs0 m hS;obtain⟨r,h1,s1,h0,m1,h2,h3⟩:=g w0 hw cs0 m hS;obtain⟨q,h4,rfl⟩:=e r h1;exact⟨q,h4,s1,h0,m1,h2,h3⟩
theorem pb{α:Type}{g:α->bN}:∀{ss:List α} {L:List (HS×AV)},F1 g ss=some L->∀s∈ss,∃l,g s=some l/\∀r∈l,∃q∈L,r=.ret q.1 q.2
 |[],_,_,_,hs=>by cases hs
 |a::ss,L,e,s,hs=>by
  obtain⟨l1,l2,h1,h2,h3⟩:=iI (show rl (fun a b=>some (a++b)) (h9 (g a) Kr) (F1 g ss)=some L from e);cases h3;rcases aA.1 hs with rfl|hs
  . obtain⟨l,h4,h5⟩:=bJ h1;exact⟨l,h4,fun r hr=>let⟨q,h6,h7⟩:=D4 h5 r hr;⟨q,aN _ h6,h7⟩⟩
  . obtain⟨l,h4,h5⟩:=pb h2 s hs;exact⟨l,h4,fun r hr=>let⟨q,h6,h7⟩:=h5 r hr;⟨q,aW _ h6,h7⟩⟩
theorem zp:∀{l:List (HS×AV)} {q:HS×AV},q∈l->Rt.ret q.1 q.2∈Oa l
 |[],_,h=>by cases h
 |a::l,q,h=>by
  rcases aA.1 h with rfl|h
  . exact aq ..
  . exact au _ (zp h)
theorem MB{u w:Value}(h:PN u w=true):GA u w=true:=by
 have hk:∀{k l:IntKind},Nat.beq (ka k) (ka l)=true->k=l:=fun{k l} e=>by cases k<;>cases l<;>first|rfl|cases e
 cases u with
 |int k i=>
  cases w with
  |int l j=>
   obtain⟨h1,h2⟩:=cS (show gv (Nat.beq (ka k) (ka l)) (Qu i j)=true from h)
   cases hk h1
   have hij:i=j:=by
    cases i<;>cases j<;>first|cases h2|skip;have h2:Nat.beq _ _=true:=h2;rw[af h2]
   simp[GA,hij]
  |_=>cases h
 |bool a=>
  cases w with
  |bool b=>
   have h:NV a b=true:=h
   cases a<;>cases b<;>first|rfl|cases h
  |_=>cases h
 |pointer a=>
  cases w with
  |pointer b=>
   obtain⟨h1,h2⟩:=cS (show gv (pB a) (pB b)=true from h)
   cases a with
   |some _=>cases h1
   |none=>cases b with
    |some _=>cases h2
    |none=>simp[GA]
  |_=>obtain⟨_,h2⟩:=cS (show gv (pB a) false=true from h);cases h2
 |slice a n c=>
  cases w with
  |slice b m d=>
   obtain⟨h1,h2⟩:=cS (show gv (pB a) (gv (pB b) (gv (Nat.beq n m) (Nat.beq c d)))=true from h)
   obtain⟨h2,h3⟩:=cS h2
   obtain⟨h3,h4⟩:=cS h3
   cases a with
   |some _=>cases h1
   |none=>cases b with
    |some _=>cases h2
    |none=>simp only[GA,h3,h4,Bool.and_self]
  |_=>obtain⟨_,h2⟩:=cS (show gv (pB a) false=true from h);cases h2
 |map a=>
  cases w with
  |map b=>
   obtain⟨h1,h2⟩:=cS (show gv (pB a) (pB b)=true from h)
   cases a with
   |some _=>cases h1
   |none=>cases b with
    |some _=>cases h2
    |none=>rfl
  |_=>obtain⟨_,h2⟩:=cS (show gv (pB a) false=true from h);cases h2
 |nilFunc=>cases w<;>first|rfl|cases h
 |nilIface=>cases w<;>first|rfl|cases h
 |_=>cases h
mutual
theorem BN:∀{x y:AV},zJ x y=true->ga x y=true
 |.p u,y,h=>by
  cases y with
  |p w=>simp only[ga];exact MB (show PN u w=true from h)
  |_=>cases h
 |.ptr o f,y,h=>by
  cases y with
  |ptr p g=>
   obtain⟨h1,h2⟩:=cS (show gv (Nat.beq o p) (Nat.beq f g)=true from h)
   simp only[ga,h1,h2,Bool.and_self]
  |_=>cases h
 |.sl o f n c z,y,h=>by
  cases y with
  |sl p g m d w=>
   obtain⟨h1,h2⟩:=cS (show gv (Nat.beq o p) (gv (Nat.beq f g) (gv (Nat.beq n m) (gv (PA c d) (Nat.beq z w))))=true from h)
   obtain⟨h2,h3⟩:=cS h2
   obtain⟨h3,h4⟩:=cS h3
   obtain⟨h4,h5⟩:=cS h4
   simp only[ga,h1,h2,h3,h4,h5,Bool.and_self]
  |_=>cases h
 |.agg l,y,h=>by
  cases y with
  |agg m=>simp only[ga];exact xL h
  |_=>cases h
 |.du l,y,h=>by
  cases y with
  |du m=>simp only[ga];exact xL (show zJ (.agg l) (.agg m)=true from h)
  |_=>cases h
 |.mp o,y,h=>by
  cases y with
  |mp p=>simp only[ga];exact h
  |_=>cases h
 |.fn _ _ _,_,h=>by cases h
 |.yl _,_,h=>by cases h
 |.lN _ _,_,h=>by cases h
theorem xL:∀{l m:List AV},zJ (.agg l) (.agg m)=true->rB l m=true
 |[],[],_=>by simp only[rB]
 |[],_::_,h=>by cases h
 |_::_,[],h=>by cases h
 |x::l,y::m,h=>by
  obtain⟨h1,h2⟩:=cS (show gv (zJ x y) (zJ (.agg l) (.agg m))=true from h);simp only[rB,BN h1,xL h2,Bool.and_self]
end
theorem xN{x y:AV}(h:zJ x y=true):x=y:=lA (BN h)
theorem Am:∀{l m:List AV},DU l m=true->l=m
 |[],[],_=>rfl
 |[],_::_,h=>by cases h
 |_::_,[],h=>by cases h
 |x::l,y::m,h=>by
  obtain⟨h1,h2⟩:=cS (show gv (zJ x y) (DU l m)=true from h);rw[xN h1,Am h2]
theorem zH:∀{l m:List (AV×AV×Nat)},Dj l m=true->l=m
 |[],[],_=>rfl
 |[],_::_,h=>by cases h
 |_::_,[],h=>by cases h
 |(k,v,n)::l,(k',v',n')::m,h=>by
  obtain⟨h1,h2⟩:=cS (show gv (gv (zJ k k') (gv (zJ v v') (Nat.beq n n'))) (Dj l m)=true from h);obtain⟨h3,h4⟩:=cS h1;obtain⟨h5,h6⟩:=cS h4;rw[xN h3,xN h5,af h6,zH h2]
theorem Mx{x y:AO}(h:PM x y=true):x=y:=by
 cases x with
 |cells l T=>
  cases y with
  |cells m U=>
   obtain⟨h1,h2⟩:=cS (show gv (DU l m) (Nat.beq T U)=true from h)
   rw[Am h1,af h2]
  |_=>cases h
 |map es c=>
  cases y with
  |map fs d=>
   obtain⟨h1,h2⟩:=cS (show gv (Dj es fs) (Nat.beq c d)=true from h)
   rw[zH h1,af h2]
  |_=>cases h
 |_=>cases h
theorem Km{x y:Option AO}(h:Nj x y=true):x=y:=by
 cases x with
 |none=>cases h
 |some a=>
  cases y with
  |none=>cases h
  |some b=>rw[Mx (show PM a b=true from h)]
theorem vD(H:Tr AO)(o:Nat):∀ids:List Nat,(vC ids H).get o=H.get o\/(vC ids H).get o=none
 |[]=>.inr (get_nil o)
 |i::ids=>by
  show((vC ids H).put i (H.get i)).get o=_\/((vC ids H).put i (H.get i)).get o=_;by_cases hi:o=i
  . subst hi;rw[jK];exact .inl rfl
  . rw[cv _ _ hi];exact vD H o ids
theorem xc(H:Tr AO)(o:Nat):∀ids:List Nat,o ∉ ids->(vC ids H).get o=none
 |[],_=>get_nil o
 |i::ids,hn=>by
  show((vC ids H).put i (H.get i)).get o=none;rw[cv _ _ fun e=>hn (by rw[e];exact aq ..)];exact xc H o ids fun hm=>hn (au _ hm)
theorem z6{H G:Tr AO}:∀{ids:List Nat},Dy ids H G=true->∀o∈ids,H.get o=G.get o
 |[],_,_,ho=>by cases ho
 |i::ids,h,o,ho=>by
  obtain⟨h1,h2⟩:=cS (show gv (Nj (H.get i) (G.get i)) (Dy ids H G)=true from h);rcases aA.1 ho with rfl|ho
  . exact Km h1
  . exact z6 h2 o ho
theorem DT(a b:Nat):a<=E5 a b/\b<=E5 a b:=by
 unfold E5
 cases h:Nat.ble a b with
 |true=>exact⟨aj h,Nat.le_refl _⟩
 |false=>
  refine⟨Nat.le_refl _,?_⟩
  rcases Nat.le_total a b with k|k
  . rw[Nat.ble_eq_true_of_le k]at h;cases h
  . exact k
theorem Aj:∀{l:List (HS×AV)} {q:HS×AV},q∈l->q.1.nx<=Ai l
 |[],_,h=>by cases h
 |a::l,q,h=>by
  have:=DT a.1.nx (Ai l);rcases aA.1 h with rfl|h
  . exact this.1
  . exact Nat.le_trans (Aj h) this.2
theorem zj{ids:List Nat}{q:HS×AV}:∀{l:List (HS×AV)},allEq ids q l=true->∀p∈l,p.2=q.2/\∀o∈ids,p.1.H.get o=q.1.H.get o
 |[],_,_,hp=>by cases hp
 |a::l,h,p,hp=>by
  obtain⟨h1,h2⟩:=cS (show gv (zJ a.2 q.2) (gv (Dy ids a.1.H q.1.H) (allEq ids q l))=true from h);obtain⟨h2,h3⟩:=cS h2;rcases aA.1 hp with rfl|hp
  . exact⟨xN h1,z6 h2⟩
  . exact zj h3 p hp
theorem zx{h h':HS}{A:AF}{cs:List AF}(hH:∀o,h'.H.get o=h.H.get o\/h'.H.get o=none)(nx:h.nx<=h'.nx):L9 ⟨h,A,cs⟩ ⟨h',A,cs⟩:=by
 intro w0 cs0 m ⟨ρ,fr,cs,w,u,us,hm,H,hf,hcs,hF⟩;refine⟨ρ,fr,cs,w,u,us,hm,?_,hf,hcs,⟨hF.1,fun q hq=>⟨(hF.2 q hq).1,Nat.lt_of_lt_of_le (hF.2 q hq).2 nx⟩⟩⟩;exact H.less hH nx
theorem z7{q:HS×AV}(hq:q∈lv)(hr:IP P f B q s):∃q'∈DB B lv,∃s',IP P f B q' s'/\L9 s s':=by
 cases B with
 |nil=>exact⟨q,hq,s,hr,fun _ _ _ h=>h⟩
 |cons A cs=>
  have self:∃q'∈lv,∃s',IP P f (A::cs) q' s'/\L9 s s':=⟨q,hq,s,hr,fun _ _ _ h=>h⟩
  show ∃q'∈DD (EX cs) lv,∃s',IP P f (A::cs) q' s'/\L9 s s'
  cases lv with
  |nil=>cases hq
  |cons q0 l=>
   have hl:DD (EX cs) (q0::l)=q0::l\/DD (EX cs) (q0::l)=Nh (q0::l) q0 (GZ q0.1.nx (EX cs)):=by
    cases l with
    |nil=>exact .inl rfl
    |cons _ _=>exact .inr rfl
   rcases hl with hl|hl
   . rw[hl];exact self
   rw[hl]
   generalize GZ q0.1.nx (EX cs)=J
   induction J with
   |nil=>exact self
   |cons ids J ih=>
    show ∃q'∈Bool.rec (motive:=fun _=>List (HS×AV)) (Nh (q0::l) q0 J) [(⟨vC ids q0.1.H,Ai (q0::l)⟩,q0.2)] (allEq ids q0 (q0::l)),∃s',IP P f (A::cs) q' s'/\L9 s s'
    cases he:allEq ids q0 (q0::l)with
    |false=>exact ih
    |true=>
     obtain⟨h1,h2⟩:=zj he q hq
     obtain⟨A',h3,rfl⟩:=hr
     rw[h1]at h3
     refine⟨_,aq ..,⟨⟨vC ids q0.1.H,Ai (q0::l)⟩,A',cs⟩,⟨A',h3,rfl⟩,zx (fun o=>?_) (Aj hq)⟩
     by_cases ho:o∈ids
     . rcases vD q0.1.H o ids with k|k
       . exact .inl (k.trans (h2 o ho).symm)
       . exact .inr k
     . exact .inr (xc _ o ids ho)
theorem qz(n:Nat)(g:Nat->bN):uG n g=g n:=by cases n<;>rfl
theorem Dv{α:Type}(n:List α)(g:List α->bN):GR n g=g n:=by cases n<;>rfl
theorem JH(n:Option Nat)(g:Option Nat->bN):ML n g=g n:=by cases n<;>rfl
theorem JJ(n:Tr AV)(g:Tr AV->bN):MM n g=g n:=by cases n<;>rfl
theorem GU(n:Tr AO)(g:Tr AO->bN):GS n g=g n:=by cases n<;>rfl
theorem JG(n:CallKind)(g:CallKind->bN):MJ n g=g n:=by cases n<;>rfl
theorem JF(n:HS)(g:HS->bN):MI n g=g n:=by
 obtain⟨H,nx⟩:=n;show uG nx (fun nx=>GS H fun H=>g ⟨H,nx⟩)=g ⟨H,nx⟩;rw[qz,GU]
theorem F8(ih:mF)(e:Nat)(s:mn):oT ih e s=ih ⟨e,s.cs,s.fr.fn,s.fr.n,s.fr.ds,s.fr.kind,s.fr.rd⟩ s.h s.fr.K s.fr.todo s.fr.mode:=by
 obtain⟨h,⟨fn,n,K,td,ds,md,kind,rd⟩,cs⟩:=s;show GR cs (fun cs=>MI h fun h=>uG fn fun fn=>uG n fun n=>GR ds fun ds=>MJ kind fun kind=>ML rd fun rd=>MM K fun K=>ih ⟨e,cs,fn,n,ds,kind,rd⟩ h K td md)=_;rw[Dv,JF,qz,qz,Dv,JG,JH,JJ]
theorem pU(H:ri P W ih){e:Nat}(g:oT ih e s=some l):Good P W s ((fns s)[e]?) (s.cs.drop e) l:=by
 rw[F8]at g;exact H _ _ _ _ _ _ g
theorem vK{d:Option Nat}{v:AV}(g:kT ih c h K td d v=some l):∃K',gM K c.n d v=some K'/\ih c h K' td .run=some l:=by
 cases d with
 |none=>exact⟨K,rfl,g⟩
 |some d=>
  have g:Bool.rec (motive:=fun _=>bN) none (ih c h (wh (sW d) (some v) K) td .run) (Nat.ble (d+1) c.n)=some l:=g
  cases hb:Nat.ble (d+1) c.n with
  |false=>rw[hb]at g;cases g
  |true=>
   rw[hb]at g
   exact⟨K.put d (some v),by simp only[gM,hb],g⟩
theorem Cz(H:ri P W ih){d:Option Nat}{v:AV}(g:kT ih c h K td d v=some l):∃K',gM K c.n d v=some K'/\Good P W (c.st h K' td .run) c.bf (c.cs.drop c.e) l:=by
 obtain⟨K',h1,h2⟩:=vK g;exact⟨K',h1,H _ _ _ _ _ _ h2⟩
theorem x5(ops:Array Oper)(c:Nat):∀l:List (Nat×Fl),v7 ops c l=l.filter fun q=>!D.jY ops q.1 c
 |[]=>rfl
 |q::l=>by
  show Bool.rec (motive:=fun _=>List (Nat×Fl)) (q::v7 ops c l) (v7 ops c l) (D.jY ops q.1 c)=_;rw[List.filter_cons,x5 ops c l];cases D.jY ops q.1 c<;>rfl
theorem zO{A:AF}{e:Nat}{cs:List AF}{v:AV}{z:bN}(g:uC A ih e cs h v z=some l):
 z=some l\/∃A',bH A v=some A'/\A'.mode=.run/\ih ⟨e,cs,A'.fn,A'.n,A'.ds,A'.kind,A'.rd⟩ h A'.K A'.todo .run=some l:=by
 obtain⟨fn,n,K2,td2,ds,md2,kind,rd⟩:=A
 cases md2<;>first|exact .inl g|skip
 cases td2 with
 |nil=>exact .inl g
 |cons x k2=>
  cases x<;>first|exact .inl g|skip
  . rename_i ops l2
    cases l2 with
    |nil=>exact .inl g
    |cons i l2=>
     obtain⟨K',e1,e2⟩:=vK (show kT ih ⟨e,cs,fn,n,ds,kind,rd⟩ h K2 (.ops ops l2::k2) (zE ops i) v=some l from g)
     have e1:gM K2 n (ja ops i) v=some K':=e1
     exact .inr ⟨⟨fn,n,K',.ops ops l2::k2,ds,.run,kind,rd⟩,by simp only[bH,e1,ak],rfl,e2⟩
  . rename_i ops K0 l2 pe
    cases l2 with
    |nil=>exact .inl g
    |cons i l2=>
     obtain⟨K',e1,e2⟩:=vK (show kT ih ⟨e,cs,fn,n,ds,kind,rd⟩ h K2 (.mu ops K0 l2 (v7 ops i pe)::k2) (zE ops i) v=some l from g)
     have e1:gM K2 n (ja ops i) v=some K':=e1
     exact .inr ⟨⟨fn,n,K',.mu ops K0 l2 (v7 ops i pe)::k2,ds,.run,kind,rd⟩,by simp only[bH,e1,ak,x5],rfl,e2⟩
  . rename_i o
    exact .inr ⟨⟨fn,n,K2,.er o::k2,ds,.run,kind,rd⟩,rfl,rfl,g⟩
theorem BU(H:ri P W ih){A:AF}{e:Nat}{cs:List AF}{v:AV}{z:bN}(g:uC A ih e cs h v z=some l):
 z=some l\/∃A',bH A v=some A'/\Good P W ⟨h,A',cs⟩ ((A.fn::cs.map (·.fn))[e]?) (cs.drop e) l:=by
 rcases zO g with g|⟨A',h1,h2,h3⟩
 . exact .inl g
 . have:=H _ _ _ _ _ _ h3
   have e:=iL h1
   obtain⟨fn,n,K2,td2,ds,md2,kind,rd⟩:=A'
   have h2:md2=.run:=h2
   have e:fn=A.fn:=e
   subst h2
   rw[<- e]
   exact .inr ⟨_,h1,this⟩
theorem Dg(H:ri P W ih):∀(e:Nat) (fn:FuncId) (cs:List AF) (ss:List (HS×AV)) (L:List Rt),Gr ih e cs ss=some L->∀q∈ss,∀s,IP P (some fn) cs q s->Good P W s ((fn::cs.map (·.fn))[e]?) (cs.drop e) L
 |0,fn,cs,ss,L,g,q,hq,s,hr=>by cases g;exact nY (r:=.ret q.1 q.2) hr (zp hq)
 |e+1,fn,[],ss,L,g,q,hq,s,hr=>by cases g
 |e+1,fn,A::cs,ss,L,g,q,hq,s,hr=>by
  have g:Option.rec (motive:=fun _=>bN) (h9 (F1 (fun q=>uC A ih 0 cs q.1 q.2 none) ss) fun l=>Gr ih e cs (DB cs l)) (fun q=>uC A ih e cs q.1 q.2 none) (one? ss)=some L:=g;obtain⟨A',hA,rfl⟩:=hr
  cases h1:one? ss with
  |none=>
   rw[h1]at g
   obtain⟨ls,e1,e2⟩:=bJ g
   obtain⟨l1,h2,h3⟩:=pb e1 q hq
   rcases BU H h2 with h2|⟨A2,h4,h5⟩
   . cases h2
   . rw[hA]at h4;cases h4
     refine uI (zY h5 h3) fun q2 hq2 s2 hr2=>?_
     obtain⟨t,h6,s3,h7,h8⟩:=z7 hq2 hr2
     exact zX h8 (Dg H e A.fn cs _ _ e2 t h6 s3 h7)
  |some q1=>
   rw[h1]at g
   unfold one? at h1
   split at h1
   . cases h1
     rcases aA.1 hq with rfl|hq
     . rcases BU H g with g|⟨A2,h4,h5⟩
       . cases g
       . rw[hA]at h4;cases h4;exact h5
     . cases hq
   . cases h1
theorem Jp{a b:List AF}(h:a.drop 1=b.drop 1)(e:Nat):a.drop (e+1)=b.drop (e+1):=by
 rw[Nat.add_comm,<- List.drop_drop,<- List.drop_drop,h]
theorem Hp{k:CallKind}(h:M7 k=true):k=.normal:=by cases k<;>first|rfl|cases h
theorem fK(hX:∀w0,W w0->ez P w0)(H:ri P W ih)(g:cn P ih c h K td md=some l):Good P W (c.st h K td md) c.bf (c.cs.drop c.e) l:=by
 unfold cn at g;have hsh:=Ih (P:=P) (S:=c.st h K td md);have hst:Cx.rec (motive:=fun _=>mn) (fun _ cs fn n ds kind rd=>⟨h,⟨fn,n,K,td,ds,md,kind,rd⟩,cs⟩) c=c.st h K td md:=by cases c;rfl
 rw[hst]at g;cases hr:ef P (c.st h K td md)with
 |one s=>
  rw[hr]at g hsh
  refine bO hX (.inl hr) ?_
  have hf:fns s=c.fn::c.cs.map (·.fn):=hsh.2.2
  obtain⟨ee,cs,fn,n,ds,kind,rd⟩:=c
  cases ee with
  |zero=>
   have g:Bool.rec (motive:=fun _=>bN) none (oT ih 0 s) (M7 kind)=some l:=g
   cases hk:M7 kind with
   |false=>rw[hk]at g;cases g
   |true=>
    rw[hk]at g
    have:=pU H g
    have hc:s.cs=cs:=hsh.2.1 (by show kind≠ .deferred;rw[Hp hk];intro h;cases h)
    rw[hc,hf]at this
    exact this
  |succ e=>
   have:=pU H (show oT ih (e+1) s=some l from g)
   have hd:s.cs.drop (e+1)=cs.drop (e+1):=Jp hsh.1 e
   rw[hd,hf]at this
   exact this
 |push s=>
  rw[hr]at g hsh
  refine bO hX (.inr (.inl hr)) ?_
  have:=pU H g
  have hd:s.cs.drop (c.e+1)=c.cs.drop c.e:=by
   have h1:s.cs.drop 1=c.cs:=hsh.1;rw[Nat.add_comm,<- List.drop_drop,h1]
  have hf:(fns s)[c.e+1]?=c.bf:=by
   have h1:(fns s).drop 1=c.fn::c.cs.map (·.fn):=hsh.2;unfold Cx.bf;rw[<- h1,List.getElem?_drop,Nat.add_comm]
  rw[hd,hf]at this
  exact this
 |pop s=>
  rw[hr]at g hsh
  refine bO hX (.inr (.inr hr)) ?_
  obtain⟨ee,cs,fn,n,ds,kind,rd⟩:=c
  cases ee with
  |zero=>cases g
  |succ e=>
   have:=pU H (show oT ih e s=some l from g)
   obtain⟨⟨x,hx⟩,hf⟩:=hsh
   have hx:cs=x::s.cs:=hx
   have hf:cs.map (·.fn)=fns s:=hf
   rw[<- hf]at this
   subst hx
   exact this
 |many ss=>
  rw[hr]at g hsh
  obtain⟨ls,e1,e2⟩:=bJ g
  intro w0 hw cs0 m hS
  have hst:=A5 (P:=P) (hX w0 hw) hS
  rw[hr]at hst
  obtain⟨s1,hs1,m',t1,t2⟩:=hst
  obtain⟨l1,h2,h3⟩:=pb e1 s1 hs1
  have hc:s1.cs=c.cs:=(hsh s1 hs1).1
  have hf:s1.fr.fn=c.fn:=(hsh s1 hs1).2
  have g1:Good P W s1 c.bf (c.cs.drop c.e) l:=uI (zY (pU H h2) h3) fun q hq s2 hr2=>by
   have hr2:IP P (some s1.fr.fn) s1.cs q s2:=hr2;rw[hc,hf]at hr2;obtain⟨t,h4,s3,h5,h6⟩:=z7 hq hr2;exact zX h6 (Dg H _ c.fn _ _ _ e2 t h4 s3 h5)
  obtain⟨q,h4,s2,h5,m2,h6,h7⟩:=g1 w0 hw cs0 m' t2
  exact⟨q,h4,s2,h5,m2,t1.trans h6,h7⟩
 |fin=>rw[hr]at g;cases g
 |bad w=>rw[hr]at g;cases g
theorem fw(x:Operand)(K:Tr AV):nV x K=cY K x:=by cases x<;>rfl
theorem nX(k:IntKind)(n:Nat):qy k n=some (.p (.int k (.ofNat n))):=by cases n<;>rfl
theorem x7(o f:Nat):ES o f=some (.ptr o f):=by cases f<;>rfl
theorem pV(b:Bool):uc b=some (.p (.bool b)):=by cases b<;>rfl
theorem C8(b:Bool):Ev b=some (.p (.bool !b)):=by cases b<;>rfl
theorem lX{k:IntKind}{n:Nat}{v:AV}(e:my k n=some v):v=.p (.int k (k.wrap (n:Int))):=by
 have un:∀(k:IntKind) (m:Nat),k.signed=false->(2:Int) ^ k.bits=(m:Int)->N2 k m n=some v->v=.p (.int k (k.wrap (n:Int))):=fun k m h1 h2 e=>by
  unfold N2 at e;rw[nX]at e;cases e;simp only[IntKind.wrap,h1,Bool.false_and,h2];rfl
 have sg:∀(k:IntKind) (m:Nat),(2:Int) ^ (k.bits-1)=(m:Int)->(2:Int) ^ k.bits=2*(m:Int)->N1 k m n=some v->v=.p (.int k (k.wrap (n:Int))):=fun k m h1 h2 e=>by
  unfold N1 at e
  cases hb:Nat.ble (n+1) m with
  |false=>rw[show Nat.ble (Nat.succ n) m=false from hb]at e;cases e
  |true=>
   rw[show Nat.ble (Nat.succ n) m=true from hb]at e
   have hlt:=aj hb
   have e:qy k n=some v:=e
   rw[nX]at e
   cases e
   have hm:(n:Int) % (2*(m:Int))=(n:Int):=Int.emod_eq_of_lt (by omega) (by omega)
   simp only[IntKind.wrap,h1,h2,hm]
   have hd:decide ((n:Int)≥(m:Int))=false:=decide_eq_false (by omega)
   rw[hd,Bool.and_false]
   rfl
 cases k
 . exact sg .i8 128 rfl rfl e
 . exact sg .i16 32768 rfl rfl e
 . exact sg .i32 2147483648 rfl rfl e
 . exact sg .i64 9223372036854775808 rfl rfl e
 . exact un .u8 256 rfl rfl e
 . exact un .u16 65536 rfl rfl e
 . exact un .u32 4294967296 rfl rfl e
 . exact un .u64 18446744073709551616 rfl rfl e
theorem FE{u:Value}{q:IntKind->Int->Option AV}{v:AV}(e:Po u q=some v):∃k i,u=.int k i/\q k i=some v:=by
 cases u<;>first|exact⟨_,_,rfl,e⟩|cases e
theorem toI_some{x:AV}{q:IntKind->Int->Option AV}{v:AV}(e:toI x q=some v):∃k i,x=.p (.int k i)/\q k i=some v:=by
 cases x with
 |p u=>obtain⟨k,i,rfl,h⟩:=FE (u:=u) e;exact⟨k,i,rfl,h⟩
 |_=>cases e
theorem n9{i:Int}{q:Nat->Option AV}{v:AV}(e:Cb i q=some v):∃n:Nat,i=(n:Int)/\q n=some v:=by
 cases i with
 |ofNat n=>exact⟨n,rfl,e⟩
 |negSucc n=>cases e
theorem toB_some{x:AV}{q:Bool->Option AV}{v:AV}(e:toB x q=some v):∃b,x=.p (.bool b)/\q b=some v:=by
 cases x with
 |p u=>
  have e:Pn u q=some v:=e
  cases u<;>first|exact⟨_,rfl,e⟩|cases e
 |_=>cases e
theorem toP_some{x:AV}{q:Nat->Nat->Option AV}{v:AV}(e:toP x q=some v):∃o f,x=.ptr o f/\q o f=some v:=by
 cases x<;>first|exact⟨_,_,rfl,e⟩|cases e
theorem toPH_some{x:AV}{q:Nat->Nat->Option HS}{v:HS}(e:toPH x q=some v):∃o f,x=.ptr o f/\q o f=some v:=by
 cases x<;>first|exact⟨_,_,rfl,e⟩|cases e
theorem toS_some{x:AV}{q:Nat->Nat->Nat->Option AV}{v:AV}(e:toS x q=some v):∃o f n c z,x=.sl o f n c z/\q o f n=some v:=by
 cases x<;>first|exact⟨_,_,_,_,_,rfl,e⟩|cases e
theorem toG_some{x:AV}{q:List AV->Option AV}{v:AV}(e:toG x q=some v):∃l,x=.agg l/\q l=some v:=by
 cases x<;>first|exact⟨_,rfl,e⟩|cases e
theorem toT_some{x:AV}{q:List AV->Option AV}{v:AV}(e:toT x q=some v):∃l,x=.du l/\q l=some v:=by
 cases x<;>first|exact⟨_,rfl,e⟩|cases e
theorem yn:∀(l:List AV) (n:Nat),Ka l n=l[n]?
 |[],_=>rfl
 |_::_,0=>rfl
 |_::l,n+1=>by rw[List.getElem?_cons_succ];exact yn l n
theorem uV{t:TypeId}{l:List AV}{f:Nat}{v:AV}(e:N0 (dw P t) l f=some v):qQ P t l f=some v:=by
 unfold qQ
 cases hq:dw P t with
 |none=>rw[hq]at e;cases e
 |some q=>
  rw[hq]at e
  obtain⟨b,s⟩:=q
  cases b with
  |true=>
   obtain⟨l',h1,h2⟩:=bJ (show h9 (cm l f s) (fun l=>some (.agg l))=some v from e)
   cases h2
   simp only[ah,h1,ak]
  |false=>
   have e:Ka l f=some v:=e
   rw[yn]at e
   simpa only[ah]using e
theorem Lw{t:TypeId}{x v:AV}(e:PD (dw P t) h x=some v):uW P h t x=some v:=by
 obtain⟨o,f,rfl,e⟩:=toP_some e;obtain⟨y,h1,h2⟩:=bJ e;have h1:h.H.get o=some y:=h1
 cases y with
 |cells l T=>
  have h2:N0 (dw P t) l f=some v:=h2
  simp only[uW,cellsOf,h1,ah]
  exact uV h2
 |_=>cases h2
theorem Ng{v:AV}(e:P9 v=true):fv v=[v]/\sN v=true:=by
 cases v with
 |p u=>
  have e:QC u=true:=e
  cases u<;>first|exact⟨rfl,rfl⟩|cases e
 |agg l=>cases e
 |du l=>cases e
 |_=>exact⟨rfl,rfl⟩
theorem Eb(v:AV):∀(l:List AV) (f:Nat) (l':List AV),KI v l f=some l'->f<l.length/\l'=l.take f++[v]++l.drop (f+1)
 |[],_,_,e=>by cases e
 |x::l,0,l',e=>by cases e;exact⟨Nat.succ_pos _,rfl⟩
 |x::l,n+1,l',e=>by
  obtain⟨a,h1,h2⟩:=bJ (show h9 (KI v l n) (fun l=>some (x::l))=some l' from e);cases h2;obtain⟨h3,rfl⟩:=Eb v l n a h1;exact⟨Nat.succ_lt_succ h3,rfl⟩
theorem Pe{t:TypeId}{x v:AV}{h':HS}(e:Qh h (KU P t) x v=some h'):vT P h t x v=some (.fX dU h'):=by
 unfold Qh at e
 cases hz:KU P t with
 |false=>rw[hz]at e;cases e
 |true=>
  rw[hz]at e
  cases hv:P9 v with
  |false=>rw[hv]at e;cases e
  |true=>
   rw[hv]at e
   obtain⟨o,f,rfl,e⟩:=toPH_some e
   obtain⟨y,h1,h2⟩:=bJ e
   have h1:h.H.get o=some y:=h1
   cases y with
   |cells l T=>
    obtain⟨l',h3,h4⟩:=bJ (show h9 (KI v l f) (QF h o T)=some h' from h2)
    cases h4
    obtain⟨h5,rfl⟩:=Eb v l f l' h3
    obtain⟨k1,k2⟩:=Ng hv
    unfold KU at hz
    cases hi:P.info? t with
    |none=>rw[hi]at hz;cases hz
    |some i=>
     rw[hi]at hz
     have hs:1=i.size:=af hz
     have hb:Nat.ble (f+1) l.length=true:=Nat.ble_eq_true_of_le h5
     simp only[vT,cellsOf,h1,ah,hi,k1,bm,List.length_nil,<- hs,qq,List.all_cons,List.all_nil,k2,hb,Bool.and_true,ak]
     rfl
   |_=>cases h2
end
end Go.Proofs.YtjfkdglgecgjfaaGreat.R
namespace Go.Proofs.YtjfkdglgecgjfaaGreat.R
open Go.RowKit
section
variable {P:Program}{h:HS}{K:Tr AV}{o:Oper}{v:AV}
def ze(P:Program)(h:HS)(K:Tr AV)(o:Oper):RV->Prop
 |.val v=>re P h K o=some (.val v)
 |.fX h'=>re P h K o=some (.fX dU h')
 |.enter g a=>re P h K o=some (.enter g a)/\tf g h a=none
 |.ext v g a=>re P h K o=some (.enter g a)/\tf g h a=some v
 |.cn=>True
theorem kX{x:Option AV}(hx:∀v,x=some v->re P h K o=some (.val v)):ze P h K o (vR x):=by
 cases x with
 |none=>trivial
 |some v=>exact hx v rfl
theorem Pk{x:Option HS}(hx:∀v,x=some v->re P h K o=some (.fX dU v)):ze P h K o (uR x):=by
 cases x with
 |none=>trivial
 |some v=>exact hx v rfl
theorem eH{r:AR}(e:fh P h K o=some r):re P h K o=some r:=by unfold re;rw[e]
theorem sa(e:fh P h K o=none):re P h K o=vu P K o:=by unfold re;rw[e]
theorem Du(k:IntKind)(i:Int):zQ k i=some (.p (.int k i)):=by
 cases i with
 |ofNat n=>exact nX k n
 |negSucc n=>rfl
theorem Hq{k l:IntKind}(e:Nat.beq (ka k) (ka l)=true):k=l:=by
 cases k<;>cases l<;>first|rfl|cases e
theorem CZ(k:IntKind):Bt k=k.bits:=by cases k<;>rfl
theorem II(k:IntKind)(n:Nat):k.wrap ((n % 2 ^ k.bits:Nat):Int)=k.wrap (n:Int):=by
 have:(((n % 2 ^ k.bits:Nat):Int)) % (2 ^ k.bits:Int)=(n:Int) % (2 ^ k.bits:Int):=by
  rw[Int.natCast_emod];rw[show((2 ^ k.bits:Nat):Int)=(2:Int) ^ k.bits from by simp];exact Int.emod_emod_of_dvd _ (Int.dvd_refl _)
 simp only[IntKind.wrap,this]
theorem CY(a b:Nat):((a:Int) == (b:Int))=Nat.beq a b:=by
 rw[Bool.eq_iff_iff,beq_iff_eq];exact⟨fun e=>by rw[Int.ofNat.inj e];exact Nat.beq_refl b,fun e=>by rw[af e]⟩
theorem C5(a b:Nat):decide ((a:Int)<=(b:Int))=Nat.ble a b:=by
 rw[Bool.eq_iff_iff,decide_eq_true_iff];exact⟨fun e=>Nat.ble_eq_true_of_le (by omega),fun e=>by have:=aj e;omega⟩
theorem C6(a b:Nat):decide ((a:Int)<(b:Int))=Nat.ble (a+1) b:=by
 rw[Bool.eq_iff_iff,decide_eq_true_iff];exact⟨fun e=>Nat.ble_eq_true_of_le (by omega),fun e=>by have:=aj e;omega⟩
theorem DY(b:Nat):((2 ^ b:Nat):Int)=(2:Int) ^ b:=by simp
theorem xy(k:IntKind)(f:Nat->Nat->Nat)(a b:Nat)(hf:∀n,f (a % 2 ^ n) (b % 2 ^ n)=f a b % 2 ^ n):k.wrap ((f (a % 2 ^ k.bits) (b % 2 ^ k.bits):Nat):Int)=k.wrap ((f a b:Nat):Int):=by
 rw[hf,II]
theorem M4{op:BinOp}{k:IntKind}{a b:Nat}(hs:Pd op=false)(e:u5 op k a b=some v)(t:TypeId):
 ∃u,bG P (binOp op t (.int k a) (.int k b))=some u/\wq u=v:=by
 have ofn:∀n:Nat,BitVec.ofInt k.bits (n:Int)=BitVec.ofNat k.bits n:=fun n=>by simp
 cases op with
 |add=>
  have:=lX (show my k (a+b)=some v from e)
  exact⟨.int k (k.wrap ((a:Int)+b)),by simp[binOp,Op.intArith,pure,bG],by rw[this,Int.natCast_add];rfl⟩
 |sub=>
  have e:Bool.rec (motive:=fun _=>Option AV) none (my k (a-b)) (Nat.ble b a)=some v:=e
  cases hb:Nat.ble b a with
  |false=>rw[hb]at e;cases e
  |true=>
   rw[hb]at e
   have:=lX (show my k (a-b)=some v from e)
   exact⟨.int k (k.wrap ((a:Int)-b)),by simp[binOp,Op.intArith,pure,bG],by rw[this,Int.ofNat_sub (aj hb)];rfl⟩
 |mul=>
  have:=lX (show my k (a*b)=some v from e)
  exact⟨.int k (k.wrap ((a:Int)*b)),by simp[binOp,Op.intArith,pure,bG],by rw[this,Int.natCast_mul];rfl⟩
 |quo=>
  cases b with
  |zero=>cases e
  |succ b=>
   have:=lX (show my k (a/(b+1))=some v from e)
   have hne:¬ ((b:Int)+1=0):=by omega
   exact⟨.int k (k.wrap ((a:Int).tdiv ((b+1:Nat):Int))),by simp[binOp,Op.intDiv,pure,bG,hne],by rw[this];rfl⟩
 |rem=>
  cases b with
  |zero=>cases e
  |succ b=>
   have e:qy k (a % (b+1))=some v:=e
   rw[nX]at e
   cases e
   have hne:¬ ((b:Int)+1=0):=by omega
   exact⟨.int k ((a:Int).tmod ((b+1:Nat):Int)),by simp[binOp,Op.intDiv,pure,bG,hne],rfl⟩
 |and=>
  have:=lX (show my k (a &&& b)=some v from e)
  refine⟨.int k (k.wrap ((BitVec.ofInt k.bits (a:Int) &&& BitVec.ofInt k.bits (b:Int)).toNat:Nat)),by simp[binOp,Op.intBits,pure,bG],?_⟩
  rw[this,ofn,ofn,BitVec.toNat_and,BitVec.toNat_ofNat,BitVec.toNat_ofNat,xy k (· &&& ·) a b fun n=>(Nat.and_mod_two_pow ..).symm]
  rfl
 |or=>
  have:=lX (show my k (a ||| b)=some v from e)
  refine⟨.int k (k.wrap ((BitVec.ofInt k.bits (a:Int) ||| BitVec.ofInt k.bits (b:Int)).toNat:Nat)),by simp[binOp,Op.intBits,pure,bG],?_⟩
  rw[this,ofn,ofn,BitVec.toNat_or,BitVec.toNat_ofNat,BitVec.toNat_ofNat,xy k (· ||| ·) a b fun n=>(Nat.or_mod_two_pow ..).symm]
  rfl
 |xor=>
  have:=lX (show my k (a ^^^ b)=some v from e)
  refine⟨.int k (k.wrap ((BitVec.ofInt k.bits (a:Int) ^^^ BitVec.ofInt k.bits (b:Int)).toNat:Nat)),by simp[binOp,Op.intBits,pure,bG],?_⟩
  rw[this,ofn,ofn,BitVec.toNat_xor,BitVec.toNat_ofNat,BitVec.toNat_ofNat,xy k (· ^^^ ·) a b fun n=>(Nat.xor_mod_two_pow ..).symm]
  rfl
 |shl=>cases hs
 |shr=>cases hs
 |andNot=>cases e
 |eql=>
  have e:uc (Nat.beq a b)=some v:=e
  rw[pV]at e;cases e
  exact⟨.bool ((a:Int) == (b:Int)),by simp only[binOp,Op.intCmp,ne_eq,not_true_eq_false,if_false];rfl,by rw[CY];rfl⟩
 |neq=>
  have e:Ev (Nat.beq a b)=some v:=e
  rw[C8]at e;cases e
  exact⟨.bool ((a:Int) !=(b:Int)),by simp only[binOp,Op.intCmp,ne_eq,not_true_eq_false,if_false];rfl,by rw[bne,CY];rfl⟩
 |lss=>
  have e:uc (Nat.ble (a+1) b)=some v:=e
  rw[pV]at e;cases e
  exact⟨.bool (decide ((a:Int)<(b:Int))),by simp only[binOp,Op.intCmp,ne_eq,not_true_eq_false,if_false];rfl,by rw[C6];rfl⟩
 |leq=>
  have e:uc (Nat.ble a b)=some v:=e
  rw[pV]at e;cases e
  exact⟨.bool (decide ((a:Int)<=(b:Int))),by simp only[binOp,Op.intCmp,ne_eq,not_true_eq_false,if_false];rfl,by rw[C5];rfl⟩
 |gtr=>
  have e:uc (Nat.ble (b+1) a)=some v:=e
  rw[pV]at e;cases e
  exact⟨.bool (decide ((b:Int)<(a:Int))),by simp only[binOp,Op.intCmp,ne_eq,not_true_eq_false,if_false];rfl,by rw[C6];rfl⟩
 |geq=>
  have e:uc (Nat.ble b a)=some v:=e
  rw[pV]at e;cases e
  exact⟨.bool (decide ((b:Int)<=(a:Int))),by simp only[binOp,Op.intCmp,ne_eq,not_true_eq_false,if_false];rfl,by rw[C5];rfl⟩
theorem Ie{op:BinOp}{k l:IntKind}{a b:Nat}(hs:Pd op=true)(e:u5 op k a b=some v)(t:TypeId):
 ∃u,bG P (binOp op t (.int k a) (.int l b))=some u/\wq u=v:=by
 have hn:¬ ((b:Int)<0):=by omega
 cases op with
 |shl=>
  have e:Bool.rec (motive:=fun _=>Option AV) none (my k (a*2 ^ b)) (Nat.ble b (Bt k))=some v:=e
  cases hb:Nat.ble b (Bt k)with
  |false=>rw[hb]at e;cases e
  |true=>
   rw[hb]at e
   have hle:b<=k.bits:=by rw[<- CZ];exact aj hb
   have:=lX (show my k (a*2 ^ b)=some v from e)
   exact⟨.int k (k.wrap ((a:Int)*2 ^ b)),by simp[binOp,Op.shift,hn,Nat.min_eq_left hle,pure,bG],by rw[this,Int.natCast_mul,DY];rfl⟩
 |shr=>
  have e:Bool.rec (motive:=fun _=>Option AV) none (qy k (a/2 ^ b)) (Nat.ble b (Bt k))=some v:=e
  cases hb:Nat.ble b (Bt k)with
  |false=>rw[hb]at e;cases e
  |true=>
   rw[hb]at e
   have hle:b<=k.bits:=by rw[<- CZ];exact aj hb
   have e:qy k (a/2 ^ b)=some v:=e
   rw[nX]at e;cases e
   refine⟨.int k ((a:Int).fdiv (2 ^ b)),by simp[binOp,Op.shift,hn,Nat.min_eq_left hle,pure,bG],?_⟩
   rw[<- DY,Int.fdiv_eq_ediv_of_nonneg _ (Int.natCast_nonneg _)]
   rfl
 |_=>cases hs
theorem Mj{op:BinOp}{t t2:TypeId}{x y:Operand}(ho:o.op=.binOp op t x y t2)(e:rl (Od op) (nV x K) (nV y K)=some v):re P h K o=some (.val v):=by
 obtain⟨u1,u2,h1,h2,e_1⟩:=iI e;rw[fw]at h1 h2;obtain⟨k,i,rfl,e_2⟩:=toI_some (show toI u1 (Ld op u2)=some v from e_1);obtain⟨a,rfl,e_3⟩:=n9 (show Cb i (fun a=>toI u2 (Ga op k a))=some v from e_2);obtain⟨l,j,rfl,e_4⟩:=toI_some (show toI u2 (Ga op k a)=some v from e_3);obtain⟨b,rfl,e_5⟩:=n9 (show Cb j (Oc op k a l)=some v from e_4);have hop:fh P h K o=none:=by
  simp only[fh,ho,Dp,h1,h2,ah];cases op<;>rfl
 rw[sa hop];obtain⟨u,k1,k2⟩:∃u,bG P (binOp op t (.int k a) (.int l b))=some u/\wq u=v:=by
  have e_5:Bool.rec (motive:=fun _=>Option AV) (Bool.rec (motive:=fun _=>Option AV) none (u5 op k a b) (Nat.beq (ka k) (ka l))) (u5 op k a b) (Pd op)=some v:=e_5
  cases hs:Pd op with
  |true=>rw[hs]at e_5;exact Ie hs e_5 t
  |false=>
   rw[hs]at e_5
   cases hk:Nat.beq (ka k) (ka l)with
   |false=>rw[hk]at e_5;cases e_5
   |true=>rw[hk]at e_5;have e_6:u5 op k a b=some v:=e_5;cases Hq hk;exact M4 hs e_6 t
 have c1:Bf K x=some (.int k a):=by simp only[Bf,h1,ah,toV,conv]
 have c2:Bf K y=some (.int l b):=by simp only[Bf,h2,ah,toV,conv]
 have hg:∀p q,bG P (eqGuard op t p q (.int k a) (.int l b))=some ():=fun p q=>by cases op<;>rfl
 have hr:bG P (execOp (fun x=>(Bf K x).getD undef) o)=some (.value u):=by
  simp only[execOp,ho,c1,c2,Option.getD_some,dJ,hg,k1,ah];rfl
 unfold vu;simp only[ho,Op.operands,List.all_cons,List.all_nil,c1,c2,Option.isSome_some,Bool.and_self];rw[hr,<- k2]
theorem Pl{op:UnOp}{t:TypeId}{x:Operand}(ho:o.op=.unOp op t x)(e:h9 (nV x K) (QG op)=some v):re P h K o=some (.val v):=by
 obtain⟨u1,h1,e⟩:=bJ e;rw[fw]at h1;have hop:fh P h K o=none:=by simp only[fh,ho]
 rw[sa hop];obtain⟨w1,u,k0,k1,k2⟩:∃w1 u,u1=.p w1/\toV u1=some w1/\bG P (Op.unary op w1)=some u/\wq u=v:=by
  cases op with
  |neg=>
   obtain⟨k,i,rfl,e⟩:=toI_some (show toI u1 OX=some v from e)
   have e:zQ k (k.wrap (0-i))=some v:=e
   rw[Du]at e
   cases e
   exact⟨_,.int k (k.wrap (0-i)),rfl,by simp only[toV,conv],by simp[Op.unary,Op.intArith,pure,bG],rfl⟩
  |not=>
   obtain⟨b,rfl,e⟩:=toB_some (show toB u1 Ev=some v from e)
   have e:Ev b=some v:=e
   rw[C8]at e;cases e
   exact⟨_,.bool !b,rfl,by simp only[toV,conv],rfl,rfl⟩
  |xor=>cases e
  |plus=>cases e
 have c1:Bf K x=some w1:=by simp only[Bf,h1,ah,k1]
 have hr:bG P (execOp (fun x=>(Bf K x).getD undef) o)=some (.value u):=by
  simp only[execOp,ho,c1,Option.getD_some,dJ,k2.1,ah];rfl
 unfold vu;simp only[ho,Op.operands,List.all_cons,List.all_nil,c1,Option.isSome_some,Bool.and_self];rw[hr,<- k2.2]
theorem nG(t:TypeId){d:TypeDesc}(e:P.underlying t=some d):bG P (underlying t)=some d:=by
 unfold underlying;simp only[dJ,program,bG,ah,e];rfl
theorem Oq{s d:TypeId}{x:Operand}(ho:o.op=.convert s d x)(e:h9 (nV x K) (Qr (Pz P s d))=some v):re P h K o=some (.val v):=by
 obtain⟨u1,h1,e_1⟩:=bJ e;rw[fw]at h1
 cases hq:Pz P s d with
 |none=>rw[hq]at e_1;cases e_1
 |some k=>
  rw[hq]at e_1
  obtain⟨l,n,rfl,e_2⟩:=toI_some (show toI u1 (fun _ i=>Int.rec (motive:=fun _=>Option AV) (my k) (fun m=>zQ k (k.wrap (.negSucc m))) i)=some v from e_1)
  have ev:v=.p (.int k (k.wrap n)):=by
   cases n with
   |ofNat n=>exact lX e_2
   |negSucc m=>
    have e_2:zQ k (k.wrap (.negSucc m))=some v:=e_2
    rw[Du]at e_2
    cases e_2
    rfl
  unfold Pz at hq
  split at hq
  . rename_i ds k' hs hd
    cases hq
    have hop:fh P h K o=none:=by
     simp only[fh,ho,wD,h1,ah,p8,hs,hd]
    rw[sa hop]
    have c1:Bf K x=some (.int l n):=by simp only[Bf,h1,ah,toV,conv]
    have hc:bG P (convert s d (.int l n))=some (.int k (k.wrap n)):=by
     unfold convert;simp only[dJ,nG s hs,nG d hd,ah];cases ds<;>rfl
    have hr:bG P (execOp (fun x=>(Bf K x).getD undef) o)=some (.value (.int k (k.wrap n))):=by
     simp only[execOp,ho,c1,Option.getD_some,dJ,hc,ah];rfl
    unfold vu
    simp only[ho,Op.operands,List.all_cons,List.all_nil,c1,Option.isSome_some,Bool.and_self]
    rw[hr,ev]
    rfl
  . cases hq
theorem OD{t:TypeId}{x:Operand}{i:Nat}(ho:o.op=.fieldAddr t x i)(e:h9 (nV x K) (Qw (MG P t i))=some v):re P h K o=some (.val v):=by
 obtain⟨u1,h1,e_1⟩:=bJ e;rw[fw]at h1;obtain⟨d,hq,e_2⟩:=bJ e_1;obtain⟨q,f,rfl,e_3⟩:=toP_some e_2;rw[x7]at e_3;cases e_3;refine eH ?_;simp only[fh,ho,sS,h1,ah,lF];unfold MG at hq;split at hq
 . rename_i fs hu;simp only[aa]at hq;obtain⟨fl,e2,inf,e3,hq⟩:=hq;split at hq
   . rename_i hb;cases hq;simp only[hu,e2,e3,hb,ah];rfl
   . cases hq
 . cases hq
theorem OE{t:TypeId}{x:Operand}{i:Nat}(ho:o.op=.field t x i)(e:h9 (nV x K) (Qx (MH P t i))=some v):re P h K o=some (.val v):=by
 obtain⟨u1,h1,e_1⟩:=bJ e;rw[fw]at h1;obtain⟨d,hq,e_2⟩:=bJ e_1;obtain⟨l,rfl,e_3⟩:=toG_some e_2;refine eH ?_;simp only[fh,ho,Dq,h1,ah,xZ];unfold MH at hq;split at hq
 . rename_i fs hu;simp only[ab]at hq;obtain⟨fl,e2,rfl⟩:=hq;simp only[hu,e2,ah,uV (P:=P) e_3,ak]
 . cases hq
theorem OI{t:TypeId}{x y:Operand}(ho:o.op=.indexAddr t x y)(e:rl (QA (MO P t)) (nV x K) (nV y K)=some v):re P h K o=some (.val v):=by
 obtain⟨u1,u2,h1,h2,e_1⟩:=iI e;rw[fw]at h1 h2;obtain⟨q,hq,e_2⟩:=bJ e_1;obtain⟨k,j,rfl,e_3⟩:=toI_some e_2;obtain⟨i,rfl,e_4⟩:=n9 e_3;refine eH ?_;have hn:pz (.p (.int k (i:Int)))=some i:=by simp[pz]
 simp only[fh,ho,sT,h1,h2,ah,lP,hn];unfold MO at hq;split at hq
 . rename_i n el hu;simp only[ab]at hq;obtain⟨inf,e2,rfl⟩:=hq;obtain⟨p,f,rfl,e_5⟩:=toP_some (show Qy n inf.size u1 i=some v from e_4)
   cases hb:Nat.ble (i+1) n with
   |false=>rw[show Nat.ble (Nat.succ i) n=false from hb]at e_5;cases e_5
   |true=>
    rw[show Nat.ble (Nat.succ i) n=true from hb]at e_5
    have e_5:ES p (f+i*inf.size)=some v:=e_5
    rw[x7]at e_5;cases e_5
    simp only[hu,e2,hb,ah]
 . rename_i el hu;simp only[ab]at hq;obtain⟨inf,e2,rfl⟩:=hq;obtain⟨p,f,n,c,z,rfl,e_6⟩:=toS_some (show Qz inf.size u1 i=some v from e_4)
   cases hb:Nat.ble (i+1) n with
   |false=>rw[show Nat.ble (Nat.succ i) n=false from hb]at e_6;cases e_6
   |true=>
    rw[show Nat.ble (Nat.succ i) n=true from hb]at e_6
    have e_6:ES p (f+i*inf.size)=some v:=e_6
    rw[x7]at e_6;cases e_6
    simp only[hu,e2,hb,ah]
 . cases hq
theorem OM{t:TypeId}{x y:Operand}(ho:o.op=.index t x y)(e:rl (QB (MQ P t)) (nV x K) (nV y K)=some v):re P h K o=some (.val v):=by
 obtain⟨u1,u2,h1,h2,e_1⟩:=iI e;rw[fw]at h1 h2;obtain⟨q,hq,e_2⟩:=bJ e_1;obtain⟨k,j,rfl,e_3⟩:=toI_some e_2;obtain⟨i,rfl,e_4⟩:=n9 e_3;obtain⟨l,rfl,e_5⟩:=toG_some e_4;refine eH ?_;have hn:pz (.p (.int k (i:Int)))=some i:=by simp[pz]
 simp only[fh,ho,Dr,h1,h2,ah,ya,hn];unfold MQ at hq;split at hq
 . rename_i n el hu;simp only[ab]at hq;obtain⟨inf,e2,rfl⟩:=hq
   cases hb:Nat.ble (i+1) n with
   |false=>rw[show Nat.ble (Nat.succ i) n=false from hb]at e_5;cases e_5
   |true=>
    rw[show Nat.ble (Nat.succ i) n=true from hb]at e_5
    have e_5:N0 (dw P el) l (i*inf.size)=some v:=e_5
    simp only[hu,e2,hb,ah,uV e_5,ak]
 . cases hq
theorem OA{x:Operand}{i:Nat}(ho:o.op=.extract x i)(e:h9 (nV x K) (Qv i)=some v):re P h K o=some (.val v):=by
 obtain⟨u1,h1,e_1⟩:=bJ e;rw[fw]at h1;obtain⟨l,rfl,e_2⟩:=toT_some e_1;rw[yn]at e_2;exact eH (by simp only[fh,ho,wE,h1,ah,e_2,ak])
theorem Dn:∀(l:List Operand) {r:List AV},xO l K=some r->EO K l=some r
 |[],_,e=>e
 |x::l,r,e=>by
  obtain⟨a,b,h1,h2,h3⟩:=iI (show rl (fun v l=>some (v::l)) (nV x K) (xO l K)=some r from e);cases h3;rw[fw]at h1;simp only[EO,h1,ah,Dn l h2,ak]
theorem Ol{c:Call}(ho:o.op=.call c):ze P h K o (Qq (HH P c) h K):=by
 have hop:∀{g:FuncId} {l:List AV},c.callee=.value (.func g)->jH P g=true->xO c.args.toList K=some l->re P h K o=some (.enter g l):=fun hc hb hl=>eH (by
  simp only[fh,ho,BQ,zr,Dn _ hl,ah,hc,cY,hb,aJ,aU])
 unfold HH;split
 . rename_i g hc;split
   . rename_i hb;split
     . show ze P h K o (Oz h g (xO c.args.toList K))
       cases hl:xO c.args.toList K with
       |none=>trivial
       |some l=>
        show ze P h K o (Oy g l (tf g h l))
        cases hv:tf g h l with
        |none=>trivial
        |some v=>exact⟨hop hc hb hl,hv⟩
     . rename_i he;show ze P h K o (Qt g (xO c.args.toList K))
       cases hl:xO c.args.toList K with
       |none=>trivial
       |some l=>exact⟨hop hc hb hl,by unfold tf;rw[he]⟩
   . trivial
 . rename_i hc;split
   . rename_i t ts x ht hx;split
     . rename_i e hu;refine kX fun v ev=>?_
       obtain⟨u,h1,h2⟩:=bJ ev;obtain⟨p,f,n,cc,z,rfl,h3⟩:=toS_some (show toS u (fun _ _ n=>qy .i64 n)=some v from h2);rw[nX]at h3;cases h3;rw[fw]at h1;refine eH ?_;simp only[fh,ho,BQ,zr,hx,EO,h1,ah,ak,hc,isRec,pW,ht,hu];rfl
     . trivial
   . trivial
 . trivial
theorem yy:ze P h K o (Kl o.op P h K):=by
 cases ho:o.op with
 |move x=>exact kX fun v e=>eH (by rw[fw]at e;simp only[fh,ho,GJ,e,ak])
 |assign x=>exact kX fun v e=>eH (by rw[fw]at e;simp only[fh,ho,zL,e,ak])
 |load t x=>exact kX fun v e=>eH (by
  obtain⟨u,h1,h2⟩:=bJ e;rw[fw]at h1;simp only[fh,ho,GH,h1,ah,Lw h2,ak])
 |store t x y=>exact Pk fun v e=>eH (by
  obtain⟨u,h1,h2⟩:=bJ e;obtain⟨u',h3,h4⟩:=bJ h2;rw[fw]at h1 h3;simp only[fh,ho,Dt,h1,h3,ah,Pe h4])
 |nilCheck x=>exact kX fun v e=>eH (by
  obtain⟨u,h1,h2⟩:=bJ e;rw[fw]at h1;cases u<;>first|(cases h2;simp only[fh,ho,uz,h1,ah])|cases h2)
 |binOp op t x y t2=>exact kX fun v e=>Mj ho e
 |unOp op t x=>exact kX fun v e=>Pl ho e
 |convert s d x=>exact kX fun v e=>Oq ho e
 |fieldAddr t x i=>exact kX fun v e=>OD ho e
 |field t x i=>exact kX fun v e=>OE ho e
 |indexAddr t x y=>exact kX fun v e=>OI ho e
 |index t x y=>exact kX fun v e=>OM ho e
 |extract x i=>exact kX fun v e=>OA ho e
 |call c=>exact Ol ho
 |_=>trivial
end
end Go.Proofs.YtjfkdglgecgjfaaGreat.R
namespace Go.Proofs.YtjfkdglgecgjfaaGreat.R
open Go.RowKit
section
variable {P:Program}{W:World->Prop}{ih:mF}{c:Cx}{h:HS}{K K0 K':Tr AV}{td td' k:List AI}{L:List Rt}{ops:Array Oper}{i:Nat}{l:List Nat}{o:Oper}{v:AV}{S0:mn}{z:bN}{pe:List (Nat×Fl)}
theorem KP{r:AR}(ho:lI ops i=some o)(hg:fL ops K o=some true)(hr:re P h K o=some r):
 ef P (c.st h K (.ops ops (i::l)::k) .run)=fu P (c.st h K (.ops ops (i::l)::k) .run) r:=by
 have ho:ops[i]?=some o:=ho
 simp only[ef,jL,Cx.st,Cx.fr,mb,ho,hg,hr]
theorem BH(ho:lI ops i=some o):ja ops i=o.dst:=by
 have ho:ops[i]?=some o:=ho;simp only[ja,ho,ah]
def Eo(c:Cx)(K:Tr AV)(td td':List AI)(d:Option Nat):Prop:=∀v K',gM K c.n d v=some K'->bH (c.fr K td .run) v=some (c.fr K' td' .run)
theorem GL(ho:lI ops i=some o):Eo c K (.ops ops (i::l)::k) (.ops ops l::k) o.dst:=fun v K' e=>by
 simp only[bH,Cx.fr,BH ho,e,ak]
theorem GK(ho:lI ops i=some o):Eo c K (.mu ops K0 (i::l) pe::k) (.mu ops K0 l (v7 ops i pe)::k) o.dst:=fun v K' e=>by
 simp only[bH,Cx.fr,BH ho,e,ak,x5]
theorem CO(hX:∀w0,W w0->ez P w0)(H:ri P W ih)(hf:Eo c K td td' o.dst)(hs:ef P S0=fu P (c.st h K td .run) (.val v))(e:kT ih c h K td' o.dst v=some L):Good P W S0 c.bf (c.cs.drop c.e) L:=by
 obtain⟨K',e1,e2⟩:=Cz H e;refine bO hX (s':=c.st h K' td' .run) (.inl ?_) e2;have hF:=hf v K' e1;rw[hs];show gj "finish" ((bH (c.fr K td .run) v).map fun fr=>ek.one ⟨h,fr,c.cs⟩)=_;rw[hF];rfl
theorem I1(hX:∀w0,W w0->ez P w0)(H:ri P W ih)(hf:Eo c K td td' o.dst){h':HS}(hs:ef P S0=fu P (c.st h K td .run) (.fX v h'))(e:kT ih c h' K td' o.dst v=some L):Good P W S0 c.bf (c.cs.drop c.e) L:=by
 obtain⟨K',e1,e2⟩:=Cz H e;refine bO hX (s':=c.st h' K' td' .run) (.inl ?_) e2;have hF:=hf v K' e1;rw[hs];show gj "finish" ((bH (c.fr K td .run) v).map fun fr=>ek.one ⟨h',fr,c.cs⟩)=_;rw[hF];rfl
theorem I0(hX:∀w0,W w0->ez P w0)(H:ri P W ih)(hf:Eo c K td td' o.dst){g:FuncId}{a:List AV}(hv:tf g h a=some v)(hs:ef P S0=fu P (c.st h K td .run) (.enter g a))(e:kT ih c h K td' o.dst v=some L):Good P W S0 c.bf (c.cs.drop c.e) L:=by
 refine CO hX H hf (hs.trans ?_) e;show(match tf g h a with
  |some v=>gj "finish" ((bH (c.fr K td .run) v).map fun fr=>ek.one ⟨h,fr,c.cs⟩)
  |none=>_)=_
 rw[hv];rfl
theorem CT:∀(l:List AV) (i:Nat) (K:Tr AV),I4 l i K=Et i K l
 |[],_,_=>rfl
 |_::l,i,K=>CT l (i+1) _
theorem DN:∀l:List AV,JV l=l.length
 |[]=>rfl
 |_::l=>congrArg Nat.succ (DN l)
theorem Jg(hX:∀w0,W w0->ez P w0)(H:ri P W ih){g:FuncId}{a:List AV}(hn:tf g h a=none)(hs:ef P S0=fu P (c.st h K td .run) (.enter g a))
 (e:Da P ih c h K td g a=some L):Good P W S0 c.bf (c.cs.drop c.e) L:=by
 obtain⟨⟨cd,n⟩,h1,h2⟩:=bJ e
 have h2:uG n (fun m=>Bool.rec (motive:=fun _=>bN) none (ih ⟨Nat.succ c.e,c.fr K td .run::c.cs,g,m,[],.normal,none⟩ h (I4 a 0 .nil) [.code cd] .run) (Nat.ble (JV a) m))=some L:=h2
 rw[qz]at h2
 cases hb:Nat.ble (JV a) n with
 |false=>rw[hb]at h2;cases h2
 |true=>
  rw[hb]at h2
  refine bO hX (s':=Cx.st ⟨Nat.succ c.e,c.fr K td .run::c.cs,g,n,[],.normal,none⟩ h (I4 a 0 .nil) [.code cd] .run) (.inr (.inl ?_)) (H _ _ _ _ _ _ h2)
  rw[hs]
  simp only[C7,aa,ab]at h1
  obtain⟨fn,e1,cd',e2,e3⟩:=h1
  cases e3
  rw[DN]at hb
  simp only[fu,hn,mT,e1,e2,ah,hb,ak,gj,CT,Cx.st,Cx.fr]
theorem FZ(hX:∀w0,W w0->ez P w0)(H:ri P W ih)(hf:Eo c K td td' o.dst){rv:RV}(hv:ze P h K o rv)(hs:∀r,re P h K o=some r->ef P S0=fu P (c.st h K td .run) r)
 (hz:z=some L->Good P W S0 c.bf (c.cs.drop c.e) L)
 (e:RV.rec (motive:=fun _=>bN) (fun v=>kT ih c h K td' o.dst v) (fun h'=>kT ih c h' K td' o.dst dU) (fun g a=>Da P ih c h K td g a) (fun v _ _=>kT ih c h K td' o.dst v) z rv=some L):Good P W S0 c.bf (c.cs.drop c.e) L:=by
 cases rv with
 |val v=>exact CO hX H hf (hs _ hv) e
 |fX h'=>exact I1 hX H hf (hs _ hv) e
 |enter g a=>exact Jg hX H hv.2 (hs _ hv.1) e
 |ext v g a=>exact I0 hX H hf hv.2 (hs _ hv.1) e
 |cn=>exact hz e
theorem HC(hX:∀w0,W w0->ez P w0)(H:ri P W ih)(ho:lI ops i=some o)(hg:fL ops K o=some true)(e:O1 P ih c h K ops i l k o=some L):Good P W (c.st h K (.ops ops (i::l)::k) .run) c.bf (c.cs.drop c.e) L:=by
 refine FZ hX H (GL ho) (yy (P:=P) (h:=h) (K:=K) (o:=o)) (fun r hr=>KP ho hg hr) (z:=cn P ih c h K (.ops ops (i::l)::k) .run) (fun z=>fK hX H z) ?_;unfold O1 at e;cases hr:Kl o.op P h K<;>rw[hr]at e<;>exact e
theorem toA_some{x:AV}{q:Bool->bN}{z:bN}(e:toA x q z=some L):(∃b,x=.p (.bool b)/\q b=some L)\/z=some L:=by
 cases x with
 |p u=>
  have e:Pm u q z=some L:=e
  cases u<;>first|exact .inl ⟨_,rfl,e⟩|exact .inr e
 |_=>exact .inr e
theorem Gy(a b:Bool):NV a b=(a == b):=by cases a<;>cases b<;>rfl
theorem Jr(ops:Array Oper)(j:Nat):zE ops j=ja ops j:=rfl
theorem Ni(hX:∀w0,W w0->ez P w0)(H:ri P W ih)(e:O2 P ih c h K ops k l=some L):Good P W (c.st h K (.ops ops l::k) .run) c.bf (c.cs.drop c.e) L:=by
 cases l with
 |nil=>exact bO hX (s':=c.st h K k .run) (.inl rfl) (H _ _ _ _ _ _ e)
 |cons i l=>
  have e:Option.rec (motive:=fun _=>bN) none (fun o=>MN o.guard P ih c h K ops i l k o) (lI ops i)=some L:=e
  cases ho:lI ops i with
  |none=>rw[ho]at e;cases e
  |some o=>
   rw[ho]at e
   have e:MN o.guard P ih c h K ops i l k o=some L:=e
   cases hg:o.guard with
   |none=>
    rw[hg]at e
    exact HC hX H ho (by simp only[fL,hg]) e
   |some jw=>
    obtain⟨j,w⟩:=jw
    rw[hg]at e
    have e:Option.rec (motive:=fun _=>bN) none
     (fun v=>toA v (fun b=>Bool.rec (motive:=fun _=>bN) (kT ih c h K (.ops ops l::k) o.dst dU) (O1 P ih c h K ops i l k o) (NV b w)) (cn P ih c h K (.ops ops (i::l)::k) .run))
     (h9 (zE ops j) fun d=>lK (sW d) K)=some L:=e
    cases hv:h9 (zE ops j) fun d=>lK (sW d) K with
    |none=>rw[hv]at e;cases e
    |some v=>
     rw[hv]at e
     obtain⟨d,h1,h2⟩:=bJ hv
     rcases toA_some e with⟨b,rfl,e9⟩|e9
     . have hgd:fL ops K o=some (b == w):=by
        have h2:K.get d=some (.p (.bool b)):=h2;simp only[fL,hg,<- Jr,h1,ah,h2,ak]
       cases hb:NV b w with
       |true=>
        rw[hb]at e9
        exact HC hX H ho (by rw[hgd,<- Gy,hb]) e9
       |false=>
        rw[hb]at e9
        obtain⟨K',e1,e2⟩:=Cz H e9
        refine bO hX (.inl ?_) e2
        have ho':ops[i]?=some o:=ho
        have hgd:fL ops K o=some false:=by rw[hgd,<- Gy,hb]
        simp only[ef,jL,Cx.st,Cx.fr,mb,ho',hgd,bH,BH ho,e1,ak,gj]
     . exact fK hX H e9
theorem Jk(hX:∀w0,W w0->ez P w0)(H:ri P W ih){a b:Code}{z:bN}{x:Operand}(hz:z=some L->Good P W (c.st h K (.code (.cond x a b)::k) .run) c.bf (c.cs.drop c.e) L)(e:Gk P ih c h K k a b z x=some L):
 Good P W (c.st h K (.code (.cond x a b)::k) .run) c.bf (c.cs.drop c.e) L:=by
 unfold Gk at e
 cases hx:nV x K with
 |none=>rw[hx]at e;exact hz e
 |some v=>
  rw[hx]at e
  rcases toA_some e with⟨t,rfl,e9⟩|e9
  . rw[fw]at hx
    cases t with
    |true=>exact bO hX (s':=c.st h K (.code a::k) .run) (.inl (by simp only[ef,jL,gU,Cx.st,Cx.fr,hx])) (H _ _ _ _ _ _ e9)
    |false=>exact bO hX (s':=c.st h K (.code b::k) .run) (.inl (by simp only[ef,jL,gU,Cx.st,Cx.fr,hx])) (H _ _ _ _ _ _ e9)
  . exact hz e9
theorem BO{id:Nat}:∀{l r:List AI},Ox id l=some r->ql id l=some r
 |[],_,e=>by cases e
 |x::l,r,e=>by
  cases x with
  |lb n=>
   have e:Bool.rec (motive:=fun _=>Option (List AI)) (Ox id l) (some l) (Nat.beq n id)=some r:=e
   unfold ql
   cases hb:Nat.beq n id with
   |true=>rw[hb]at e;exact e
   |false=>rw[hb]at e;exact BO e
  |_=>exact BO (l:=l) e
theorem yF:∀{l:List ResultVar} {r:List AV},HQ P h K l=some r->tk P h K l=some r
 |[],_,e=>e
 |x::l,r,e=>by
  obtain⟨a,b,h1,h2,h3⟩:=iI (show rl (fun v l=>some (v::l)) (O3 P h K x) (HQ P h K l)=some r from e);cases h3
  cases x with
  |tmp t=>
   have h1:K.get t=some a:=h1
   simp only[tk,h1,ah,yF h2,ak]
  |cell q t=>
   obtain⟨u,h3,h4⟩:=bJ (show h9 (lK (sW q) K) (PD (dw P t) h)=some a from h1)
   have h3:K.get q=some u:=h3
   simp only[tk,h3,ah,Lw h4,yF h2,ak]
theorem yG(l:List AV):vA l=Cr l:=by
 match l with
 |[]=>rfl
 |[_]=>rfl
 |_::_::_=>rfl
theorem tA(hX:∀w0,W w0->ez P w0)(H:ri P W ih){z:bN}(hl:c.rd=none->Good P W (c.st h K td .ret) c.bf (c.cs.drop c.e) L->Good P W S0 c.bf (c.cs.drop c.e) L)(hb:∀rs,vy td rs=true)
 (hz:z=some L->Good P W S0 c.bf (c.cs.drop c.e) L) (e:HR P ih c h K z=some L):Good P W S0 c.bf (c.cs.drop c.e) L:=by
 obtain⟨ee,cs,fn,n,ds,kind,rd⟩:=c
 cases rd with
 |some r=>exact hz e
 |none=>
  cases ds with
  |cons d ds=>exact hz e
  |nil=>
   have e:Bool.rec (motive:=fun _=>bN) z (O4 P ih ⟨ee,cs,fn,n,[],kind,none⟩ h K z) (M7 kind)=some L:=e
   cases hk:M7 kind with
   |false=>rw[hk]at e;exact hz e
   |true=>
    rw[hk]at e
    cases Hp hk
    have e:uG fn (fun f=>Option.rec (motive:=fun _=>bN) z (fun l=>Nat.rec (motive:=fun _=>bN) (Ms cs h (vA l) z) (fun e _=>List.rec (motive:=fun _=>bN) z (fun A cs _=>uC A ih e cs h (vA l) z) cs) ee) (h9 (Kq P f) (HQ P h K)))=some L:=e
    rw[qz]at e
    cases hr:h9 (Kq P fn) (HQ P h K)with
    |none=>rw[hr]at e;exact hz e
    |some vs=>
     rw[hr]at e
     obtain⟨rs,h1,h2⟩:=bJ hr
     simp only[Kq,ab]at h1
     obtain⟨f,h1,rfl⟩:=h1
     have h2:=yF h2
     cases ee with
     |zero=>
      have e:Ms cs h (vA vs) z=some L:=e
      cases cs with
      |nil=>
       cases e
       refine hl rfl (nY (r:=.ret h (vA vs)) ?_ (aq ..))
       exact⟨rfl,rfl,rfl,rfl,rfl,rfl,f,vs,h1,h2,hb _,yG vs⟩
      |cons A cs=>
       rcases zO (show uC A (fun _ _ _ _ _=>some [.ret h (vA vs)]) 0 cs h (vA vs) z=some L from e)with e|⟨A',e1,_,e2⟩
       . exact hz e
       . cases e2
         refine hl rfl (bO hX (s':=⟨h,A',cs⟩) (.inr (.inr ?_)) (nY (r:=.ret h (vA vs)) ⟨A',e1,rfl⟩ (aq ..)))
         rw[yG]at e1
         simp only[ef,oE,Cx.st,Cx.fr,h1,ah,h2,hb,e1,ak,gj]
     |succ ee=>
      cases cs with
      |nil=>exact hz e
      |cons A cs=>
       rcases BU H (show uC A ih ee cs h (vA vs) z=some L from e)with e|⟨A',e1,e2⟩
       . exact hz e
       . refine hl rfl (bO hX (s':=⟨h,A',cs⟩) (.inr (.inr ?_)) e2)
         rw[yG]at e1
         simp only[ef,oE,Cx.st,Cx.fr,h1,ah,h2,hb,e1,ak,gj]
theorem yj(hm:B8 ops i o=true):tj ops K0 K i o=K:=by
 have:∀ts:List Tmp,(ts.all fun t=>match D.writer ops t with
  |none=>true
  |some j=>D.jY ops j i)=true->∀K,yi ops K0 i ts K=K:=by
  intro ts
  induction ts with
  |nil=>intro _ K;rfl
  |cons t ts ih=>
   intro h K
   simp only[List.all_cons,al]at h
   unfold yi
   rw[ih h.2]
   have h1:=h.1
   cases hw:D.writer ops t with
   |none=>rfl
   |some j=>
    rw[hw]at h1
    simp only at h1 ⊢
    rw[h1]
 exact this _ hm K
theorem BZ(hg:Lj o=true):fL ops K o=some true:=by
 unfold Lj at hg;unfold fL
 cases h:o.guard with
 |none=>rfl
 |some g=>rw[h]at hg;cases hg
theorem Iq{n:Nat}{h:HS}:∀{pe pe':List (Nat×Fl)} {K K':Tr AV},yR P ops l n h pe K=some (K',pe')->jm P ops K0 l n pe h K=some (h,K',pe')
 |[],pe',K,K',e=>by cases e;rfl
 |(i,fl)::pe,pe',K,K',e=>by
  have kG:∀{fl:Fl} {pe'':List (Nat×Fl)} {K K':Tr AV},A6 (yR P ops l n h pe) (i,fl) K=some (K',pe'')->(jm P ops K0 l n pe h K).map (fun r=>(r.1,r.2.1,(i,fl)::r.2.2))=some (h,K',pe''):=by
   intro fl pe'' K K' e;obtain⟨r,h1,h2⟩:=bJ e;cases h2;rw[Iq (show yR P ops l n h pe K=some (r.1,r.2) from h1)];rfl
  cases fl with
  |val=>unfold jm;exact kG e
  |new q=>unfold jm;exact kG e
  |no=>
   have e:Bool.rec (motive:=fun _=>zh) (h9 (lI ops i) (ND P ops n h (yR P ops l n h pe) i K)) (A6 (yR P ops l n h pe) (i,.no) K) (F4 ops l i)=some (K',pe'):=e
   unfold jm
   simp only
   cases ha:F4 ops l i with
   |true=>
    rw[ha]at e
    have ha:(l.any fun c=>D.jY ops c i)=true:=ha
    rw[ha]
    exact kG e
   |false=>
    rw[ha]at e
    have ha:(l.any fun c=>D.jY ops c i)=false:=ha
    rw[ha]
    obtain⟨o,ho,e⟩:=bJ e
    have ho:ops[i]?=some o:=ho
    simp only[ho,ah]
    unfold ND at e
    cases hm:B8 ops i o with
    |false=>rw[hm]at e;cases e
    |true=>
     rw[hm]at e
     cases hg:Lj o with
     |false=>rw[hg]at e;cases e
     |true=>
      rw[hg]at e
      have hv:=yy (P:=P) (h:=h) (K:=K) (o:=o)
      rw[yj (K0:=K0) (K:=K) hm,BZ (ops:=ops) (K:=K) hg]
      simp only[ah]
      cases hr:Kl o.op P h K with
      |val v=>
       rw[hr]at e hv
       have hv:re P h K o=some (.val v):=hv
       rw[hv]
       simp only[ah]
       have e:Pf n (yR P ops l n h pe) i K v o.dst=some (K',pe'):=e
       cases hd:o.dst with
       |none=>
        rw[hd]at e
        simp only[gM,ak,ah]
        exact kG e
       |some d=>
        rw[hd]at e
        have e:Bool.rec (motive:=fun _=>zh) none (A6 (yR P ops l n h pe) (i,.val) (wh (sW d) (some v) K)) (Nat.ble (d+1) n)=some (K',pe'):=e
        cases hb:Nat.ble (d+1) n with
        |false=>rw[hb]at e;cases e
        |true=>
         rw[hb]at e
         simp only[gM,hb,ak,ah]
         exact kG e
      |fX h'=>rw[hr]at e;cases e
      |enter g a=>rw[hr]at e;cases e
      |ext v g a=>rw[hr]at e;cases e
      |cn=>rw[hr]at e;cases e
theorem Js{n:Nat}{d:Option Nat}(e:Mq K n v d=true):zD K n d v=true:=by
 cases d with
 |none=>rfl
 |some d=>
  have e:Bool.rec (motive:=fun _=>Bool) false (Option.rec (motive:=fun _=>Bool) false (fun u=>zJ u v) (lK (sW d) K)) (Nat.ble (Nat.succ d) n)=true:=e
  cases hb:Nat.ble (d+1) n with
  |false=>rw[show Nat.ble (Nat.succ d) n=false from hb]at e;cases e
  |true=>
   rw[show Nat.ble (Nat.succ d) n=true from hb]at e
   have e:Option.rec (motive:=fun _=>Bool) false (fun u=>zJ u v) (K.get d)=true:=e
   unfold zD
   simp only[hb,Bool.true_and]
   cases hk:K.get d with
   |none=>rw[hk]at e;cases e
   |some u=>rw[hk]at e;exact BN e
theorem Gg{n:Nat}{h:HS}:∀{pe:List (Nat×Fl)},Gd P ops l n h K pe=true->pe.all (xB P ops K0 n h K)=true/\(pe.all fun q=>!JN q.2||l.any fun c=>D.jY ops c q.1)=true/\pA pe=[]
 |[],_=>⟨rfl,rfl,rfl⟩
 |(i,fl)::pe,e=>by
  obtain⟨h1,h2⟩:=cS (show gv (Fl.rec (motive:=fun _=>Bool) (F4 ops l i) (Option.rec (motive:=fun _=>Bool) false (Ml P ops n h K i) (lI ops i)) (fun _=>false) fl) (Gd P ops l n h K pe)=true from e);obtain⟨h3,h4,h5⟩:=Gg h2;simp only[List.all_cons,al]
  cases fl with
  |no=>exact⟨⟨rfl,h3⟩,⟨h1,h4⟩,h5⟩
  |new q=>cases h1
  |val=>
   refine⟨⟨?_,h3⟩,⟨rfl,h4⟩,h5⟩
   have h1:Option.rec (motive:=fun _=>Bool) false (Ml P ops n h K i) (lI ops i)=true:=h1
   cases ho:lI ops i with
   |none=>rw[ho]at h1;cases h1
   |some o=>
    rw[ho]at h1
    have ho:ops[i]?=some o:=ho
    obtain⟨k1,k2⟩:=cS (show gv (B8 ops i o) (gv (Lj o) (RV.rec (motive:=fun _=>Bool) (fun v=>Mq K n v o.dst) (fun _=>false) (fun _ _=>false) (fun _ _ _=>false) false (Kl o.op P h K)))=true from h1)
    obtain⟨k2,k3⟩:=cS k2
    have hv:=yy (P:=P) (h:=h) (K:=K) (o:=o)
    unfold xB
    simp only[ho,yj (K0:=K0) (K:=K) k1,BZ (ops:=ops) (K:=K) k2]
    cases hr:Kl o.op P h K with
    |val v=>
     rw[hr]at k3 hv
     have hv:re P h K o=some (.val v):=hv
     rw[hv]
     exact Js k3
    |fX h'=>rw[hr]at k3;cases k3
    |enter g a=>rw[hr]at k3;cases k3
    |ext v g a=>rw[hr]at k3;cases k3
    |cn=>rw[hr]at k3;cases k3
theorem Gu(hX:∀w0,W w0->ez P w0)(H:ri P W ih)(hz:z=some L->Good P W (c.st h K (.mu ops K0 l pe::k) .run) c.bf (c.cs.drop c.e) L)
 (e:Gs P ih c h K ops K0 l pe k z=some L):Good P W (c.st h K (.mu ops K0 l pe::k) .run) c.bf (c.cs.drop c.e) L:=by
 unfold Gs at e
 cases hs:yR P ops l c.n h pe K with
 |none=>rw[hs]at e;exact hz e
 |some r=>
  obtain⟨K1,pe1⟩:=r
  rw[hs]at e
  have hst:=Iq (K0:=K0) hs
  have e:Bool.rec (motive:=fun _=>bN) z (Bool.rec (motive:=fun _=>bN) z (List.rec (motive:=fun _=>bN) (ih c h K1 k .run) (fun i t _=>Option.rec (motive:=fun _=>bN) z (Gv P ih c h K1 ops K0 i t pe1 k z) (lI ops i)) l) (Nk ops l)) (Gd P ops l c.n h K1 pe1)=some L:=e
  cases hc:Gd P ops l c.n h K1 pe1 with
  |false=>rw[hc]at e;exact hz e
  |true=>
   rw[hc]at e
   cases ho:Nk ops l with
   |false=>rw[ho]at e;exact hz e
   |true=>
    rw[ho]at e
    obtain⟨h1,h2,h3⟩:=Gg (K0:=K0) hc
    have hk:Gf P ops K0 c.n l h K1 pe1=true:=by
     unfold Gf;rw[h1,h2,h3];exact ho
    cases l with
    |nil=>
     refine bO hX (s':=c.st h K1 k .run) (.inl ?_) (H _ _ _ _ _ _ e)
     simp only[ef,jL,Cx.st,Cx.fr,kz,hst,hk]
    |cons i t=>
     have e:Option.rec (motive:=fun _=>bN) z (Gv P ih c h K1 ops K0 i t pe1 k z) (lI ops i)=some L:=e
     cases hi:lI ops i with
     |none=>rw[hi]at e;exact hz e
     |some o=>
      rw[hi]at e
      have e:Gv P ih c h K1 ops K0 i t pe1 k z o=some L:=e
      unfold Gv at e
      cases hm:B8 ops i o with
      |false=>rw[hm]at e;exact hz e
      |true=>
       rw[hm]at e
       cases hg:Lj o with
       |false=>rw[hg]at e;exact hz e
       |true=>
        rw[hg]at e
        have hi':ops[i]?=some o:=hi
        refine FZ hX H (td:=.mu ops K0 (i::t) pe1::k) (GK hi) (yy (P:=P) (h:=h) (K:=K1) (o:=o)) (fun r hr=>?_) hz e
        simp only[ef,jL,Cx.st,Cx.fr,kz,hst,hk,mb,hi',yj (K0:=K0) (K:=K1) hm,BZ (ops:=ops) (K:=K1) hg,hr]
theorem Gi(hX:∀w0,W w0->ez P w0)(H:ri P W ih)(x:Code)(e:Lg x P ih c h K k=some L):Good P W (c.st h K (.code x::k) .run) c.bf (c.cs.drop c.e) L:=by
 cases x with
 |skip=>exact bO hX (s':=c.st h K k .run) (.inl rfl) (H _ _ _ _ _ _ e)
 |region id ops dr=>
  cases dr with
  |false=>exact bO hX (s':=c.st h K (.ops ops (QE ops)::k) .run) (.inl rfl) (H _ _ _ _ _ _ e)
  |true=>
   have e:Bool.rec (motive:=fun _=>bN) (cn P ih c h K (.code (.region id ops true)::k) .run) (ih c h K (.mu ops K (rn ops) (pF ops)::k) .run) (Mm P ops c.n)=some L:=e
   cases hq:Mm P ops c.n with
   |false=>rw[hq]at e;exact fK hX H e
   |true=>
    rw[hq]at e
    have hq:(P.follows .mixedOrders&&Bw ops c.n)=true:=hq
    exact bO hX (s':=c.st h K (.mu ops K (rn ops) (pF ops)::k) .run) (.inl (by simp only[ef,jL,gU,Cx.st,Cx.fr,hq])) (H _ _ _ _ _ _ e)
 |seq a b=>exact bO hX (s':=c.st h K (.code a:: .code b::k) .run) (.inl rfl) (H _ _ _ _ _ _ e)
 |cond x a b=>exact Jk hX H (fun z=>fK hX H z) e
 |block id b=>exact bO hX (s':=c.st h K (.code b:: .lb id::k) .run) (.inl rfl) (H _ _ _ _ _ _ e)
 |loop b=>exact bO hX (s':=c.st h K (.code b:: .lp b::k) .run) (.inl rfl) (H _ _ _ _ _ _ e)
 |scope b=>exact bO hX (s':=c.st h K (.code b:: .sc b::k) .run) (.inl rfl) (H _ _ _ _ _ _ e)
 |exit id=>
  have e:Option.rec (motive:=fun _=>bN) (cn P ih c h K (.code (.exit id)::k) .run) (fun k=>ih c h K k .run) (Ox id k)=some L:=e
  cases hx:Ox id k with
  |none=>rw[hx]at e;exact fK hX H e
  |some k'=>
   rw[hx]at e
   exact bO hX (s':=c.st h K k' .run) (.inl (by simp only[ef,jL,gU,Cx.st,Cx.fr,BO hx])) (H _ _ _ _ _ _ e)
 |ret=>
  refine tA hX H (td:=.code .ret::k) (fun hn g=>bO hX (.inl ?_) g) (fun rs=>rfl) (fun z=>fK hX H z) e
  simp only[ef,jL,gU,hG,Cx.st,Cx.fr,hn]
 |_=>exact fK hX H e
theorem G1(hX:∀w0,W w0->ez P w0)(H:ri P W ih)(x:AI)(e:Ll x P ih c h K k=some L):Good P W (c.st h K (x::k) .run) c.bf (c.cs.drop c.e) L:=by
 cases x with
 |code cd=>exact Gi hX H cd e
 |lb id=>exact bO hX (s':=c.st h K k .run) (.inl rfl) (H _ _ _ _ _ _ e)
 |lp cd=>exact bO hX (s':=c.st h K (.code cd:: .lp cd::k) .run) (.inl rfl) (H _ _ _ _ _ _ e)
 |sc cd=>exact bO hX (s':=c.st h K k .run) (.inl rfl) (H _ _ _ _ _ _ e)
 |ops ops l=>exact Ni hX H e
 |mu ops K0 td pe=>exact Gu hX H (fun z=>fK hX H z) e
 |_=>exact fK hX H e
theorem J0(hX:∀w0,W w0->ez P w0)(H:ri P W ih):ri P W (Ly P ih):=by
 intro c h K td md L e
 cases md with
 |run=>
  cases td with
  |nil=>
   refine tA hX H (td:=[]) (fun hn g=>bO hX (.inl ?_) g) (fun rs=>rfl) (fun z=>fK hX H z) e
   simp only[ef,jL,hG,Cx.st,Cx.fr,hn]
  |cons x k=>exact G1 hX H x e
 |ret=>
  have hz:∀L,cn P ih c h K td .ret=some L->Good P W (c.st h K td .ret) c.bf (c.cs.drop c.e) L:=fun L z=>fK hX H z
  cases td with
  |nil=>exact tA hX H (td:=[]) (fun _ g=>g) (fun rs=>rfl) (hz L) e
  |cons x k=>
   cases x with
   |code cd=>exact tA hX H (td:=.code cd::k) (fun _ g=>g) (fun rs=>rfl) (hz L) e
   |_=>exact hz L e
 |Bi l=>exact fK hX H e
theorem yH(hX:∀w0,W w0->ez P w0):∀f:Nat,ri P W (O7 P f)
 |0=>fun c h K td md _ e=>by cases e;exact nY (r:=.stop c h K td md) ⟨rfl,rfl,rfl⟩ (aq ..)
 |f+1=>J0 hX (yH hX f)
end
end Go.Proofs.YtjfkdglgecgjfaaGreat.R
namespace Go.Proofs.YtjfkdglgecgjfaaGreat.R
open Go.RowKit
noncomputable section
def PC(x:AV):Bool:=match x with
 |.p (.bool true)=>true
 |_=>false
def JP(r:Rt):Bool:=match r with
 |.ret _ v=>PC v
 |.stop .. =>false
theorem MW{x:AV}(h:PC x=true):x=.p (.bool true):=by
 unfold PC at h;split at h
 . rfl
 . cases h
structure CS where
 c:Cx
 h:HS
 K:Tr AV
 td:List AI
def CS.run(P:Program)(n:Nat)(s:CS):bN:=O7 P n s.c s.h s.K s.td .run
def CS.rt(s:CS):Rt:=.stop s.c s.h s.K s.td .run
def Mo(ids:List Nat)(nx:Nat)(r:Rt):Rt:=Rt.rec (motive:=fun _=>Rt) (fun h v=>.ret h v) (fun c h K td md=>.stop c ⟨vC ids h.H,E5 h.nx nx⟩ K td md) r
def ED(ids:List Nat)(nx:Nat)(a:bN):Option Rt:=h9 a fun l=>match l with
 |[x]=>some (Mo ids nx x)
 |_=>none
def vO(P:Program)(f:FuncId):Option CS:=h9 (C7 P f) fun q=>some ⟨⟨0,[],f,q.2,[],.normal,none⟩,⟨.nil,0⟩,.nil,[.code q.1]⟩
def Io(P:Program)(f:FuncId)(ids:List Nat)(n:Nat):Option Rt:=h9 (vO P f) fun s=>ED ids 0 (s.run P n)
def Mr(a:bN):Bool:=match a with
 |some l=>l.all JP
 |none=>false
def jA(P:Program)(W:World->Prop)(s:CS):Prop:=∀w0,W w0->∀(cs0:List Frame) (m:Machine),yY w0 cs0 (s.c.st s.h s.K s.td .run) m->
 ∃r,JP r=true/\∃s',FT P s.c.bf (s.c.cs.drop s.c.e) r s'/\∃m',Steps P m m'/\yY w0 cs0 s' m'
theorem Mt{P:Program}{W:World->Prop}(hX:∀w0,W w0->ez P w0){s:CS}{n:Nat}(h:Mr (s.run P n)=true):jA P W s:=by
 unfold Mr at h;split at h
 . rename_i l hs;intro w0 hw cs0 m hS;obtain⟨r,hr,h2⟩:=yH hX n _ _ _ _ _ _ hs w0 hw cs0 m hS;exact⟨r,aF.1 h r hr,h2⟩
 . cases h
theorem Pj{P:Program}{W:World->Prop}{c:Cx}{h:HS}{K:Tr AV}{td:List AI}{md:AM}{t:CS}{ids:List Nat}{nx:Nat}(e:Mo ids nx (.stop c h K td md)=t.rt)(g:jA P W t)
 {w0:World} (hw:W w0) {cs0:List Frame} {m:Machine} (hS:yY w0 cs0 (c.st h K td md) m):∃r,JP r=true/\∃s',FT P c.bf (c.cs.drop c.e) r s'/\∃m',Steps P m m'/\yY w0 cs0 s' m':=by
 have h2:Rt.stop c ⟨vC ids h.H,E5 h.nx nx⟩ K td md=.stop t.c t.h t.K t.td .run:=e
 simp only[Rt.stop.injEq]at h2
 obtain⟨rfl,e2,rfl,rfl,rfl⟩:=h2
 have hc:L9 (t.c.st h t.K t.td .run) (t.c.st t.h t.K t.td .run):=by
  rw[<- e2];exact zx (fun o=>vD h.H o ids) (DT h.nx nx).1
 exact g w0 hw cs0 m (hc w0 cs0 m hS)
theorem uu{P:Program}{W:World->Prop}(hX:∀w0,W w0->ez P w0){s t:CS}{ids:List Nat}{nx n:Nat}(h:ED ids nx (s.run P n)=some t.rt)(g:jA P W t):jA P W s:=by
 obtain⟨l,h1,h2⟩:=bJ h;split at h2
 . rename_i x;have hg:=yH hX n _ _ _ _ _ _ h1;have h2:Mo ids nx x=t.rt:=ar h2
   cases x with
   |ret=>cases h2
   |stop c h' K td md=>
    intro w0 hw cs0 m hS
    obtain⟨r,hr,s1,hR,m1,k1,k2⟩:=hg w0 hw cs0 m hS
    rcases aA.1 hr with rfl|hr
    . obtain⟨rfl,e3,e4⟩:=hR
      obtain⟨q,q1,s2,q2,m2,q3,q4⟩:=Pj h2 g hw k2
      rw[e3,e4]at q2
      exact⟨q,q1,s2,q2,m2,k1.trans q3,q4⟩
    . cases hr
 . cases h2
theorem vP{P:Program}{W:World->Prop}(hX:∀w0,W w0->ez P w0){f:FuncId}{t:CS}{ids:List Nat}{n:Nat}(h:Io P f ids n=some t.rt)(g:jA P W t):∃s,vO P f=some s/\jA P W s:=by
 obtain⟨s,h1,h2⟩:=bJ h;exact⟨s,h1,uu hX h2 g⟩
theorem CC{P:Program}{W:World->Prop}{f:FuncId}(h:∃s,vO P f=some s/\jA P W s):∃A,mT P f [] .normal=some A/\∀w0,W w0->∀(cs0:List Frame) (m:Machine),yY w0 cs0 ⟨⟨.nil,0⟩,A,[]⟩ m->
 ∃r,JP r=true/\∃s',FT P (some f) [] r s'/\∃m',Steps P m m'/\yY w0 cs0 s' m':=by
 obtain⟨s,h,g⟩:=h
 obtain⟨⟨c,k⟩,h1,h2⟩:=bJ h
 cases h2
 simp only[C7,aa,ab]at h1
 obtain⟨fn,e1,c',e2,e3⟩:=h1
 cases e3
 exact⟨⟨f,fn.ntmps,.nil,[.code c],[],.run,.normal,none⟩,by simp only[mT,e1,e2,Et,ah,List.length_nil,show ∀n,Nat.ble 0 n=true from fun n=>rfl],g⟩
theorem Ij{P:Program}{W:World->Prop}{f:FuncId}(h:∃s,vO P f=some s/\jA P W s)(m:Mem)(hw:W m.w):Spec P f #[] m [] fun v _ L'=>L'=[]/\v=.bool true:=by
 obtain⟨A,hA,hg⟩:=CC h
 ·
  have hfr:FR (fun _=>none) A (Frame.enter P f #[] .normal) []:=qi (aS:=[]) hA rfl
  intro cs
  have hS:yY m.w cs ⟨⟨.nil,0⟩,A,[]⟩ (lone (Frame.enter P f #[] .normal) cs m.w):=
   ⟨fun _=>none,Frame.enter P f #[] .normal,[],m.w,[],[],rfl,
    ⟨⟨rfl,rfl,rfl,Nat.le_refl _,fun _ _=>rfl⟩,fun o x q hx _=>(by rw[get_nil]at hx;cases hx),fun o o' x x' q q' hx=>(by rw[get_nil]at hx;cases hx),fun o q hq=>(by cases hq),fun o _=>⟨rfl,get_nil o⟩⟩,
    hfr,.nil,⟨List.nodup_nil,fun q hq=>by cases hq⟩⟩
  obtain⟨r,hT,s,hR,m',hst,hS'⟩:=hg m.w hw cs _ hS
  cases r with
  |stop=>cases hT
  |ret qh qv=>
  obtain⟨hfn,hh,hcs,hmode,hds,hkind,fn,vs,e1,e2,e3,e4⟩:=hR
  obtain⟨ρ,fr,cs',w,u,us,rfl,H,hf,hcs',hF⟩:=hS'
  have hT:=MW (show PC qv=true from hT)
  have e4:qv=Cr vs:=e4
  rw[hcs]at hcs'
  cases hcs'
  rw[hh]at H
  obtain⟨v,k1,k2⟩:=pH (P:=P) (s:=s) (by rw[hh];exact H) hf (by rw[hh];exact e2) e3
  rw[<- e4,hT]at k2
  simp only[conv,ae]at k2
  subst k2
  have hfm:=hf.mode
  rw[hmode]at hfm
  simp only[dR,ae]at hfm
  have hfd:=hf.ds
  rw[hds]at hfd
  simp only[dW,ae]at hfd
  cases hfn
  refine⟨.returned (.bool true),w,fr,⟨.bool true,⟨w,m.im⟩,[],rfl,rfl,?_,rfl,rfl⟩,hst,hf.fn,⟨hfm.symm,hfd.symm,by rw[hf.kind,hkind],fn,by rw[hf.fn];exact e1,k1⟩⟩
  have hO:=H.out
  have hc:∀b o,b<m.w.heap.size->w.cell? ⟨b,o,none⟩=m.w.cell? ⟨b,o,none⟩:=fun b o hb=>by
   simp only[World.cell?,hO.kept b hb]
  exact⟨⟨hO.os,hO.tape,hO.output,hO.size,fun b o hb=>⟨⟨hb.1,Nat.lt_of_lt_of_le hb.2 hO.size⟩,hc b o hb.2⟩⟩,
   fun b hb _=>hO.kept b hb,fun b o hb=>by
    rcases Nat.lt_or_ge b m.w.heap.size with k|k
    . exact .inl ⟨hb.1,k⟩
    . exact .inr (.inl k),
   Ow.nil _,fun b hb=>by cases hb⟩
def xi(n:Nat):AV:=.p (.int .i64 (.ofNat n))
def xu(n:Nat):AV:=.p (.int .u8 (.ofNat n))
def xn(k:IntKind)(n:Nat):AV:=.p (.int k (.ofNat n))
def xt:AV:=.p (.bool true)
def xf:AV:=.p (.bool false)
def xU(l:List Nat):List AV:=List.rec (motive:=fun _=>List AV) [] (fun n _ r=>xu n::r) l
def xr(o f:Nat):AV:=.ptr o f
def xs(o f n z:Nat):AV:=.sl o f n none z
section
variable {α:Type}
def to:Tr α:=.nil
def tl(v:α):Tr α:=.nd (some v) .nil .nil .nil .nil
def tn(v:α)(a b c d:Tr α):Tr α:=.nd (some v) a b c d
def tm(a b c d:Tr α):Tr α:=.nd none a b c d
end
def PI:List Nat->Code->Code
 |[],c=>c
 |0::p,.seq a _|0::p,.cond _ a _|0::p,.block _ a|0::p,.loop a|0::p,.scope a|0::p,.rangeFunc _ _ a _=>PI p a
 |_::p,.seq _ b|_::p,.cond _ _ b|_::p,.rangeFunc _ _ _ b=>PI p b
 |_::_,_=>.skip
def cd(P:Program)(f:Nat)(p:List Nat):Code:=match P.funcs[f]? with
 |some fn=>(match fn.body with|some c=>PI p c|none=>.skip)
 |none=>.skip
def od(P:Program)(f:Nat)(p:List Nat):Array Oper:=match cd P f p with
 |.region _ ops _=>ops
 |_=> #[]
end
end Go.Proofs.YtjfkdglgecgjfaaGreat.R
namespace Go.Proofs.YtjfkdglgecgjfaaGreat
section
open Go.RowKit Go.Shelf G
namespace E
variable {S:Nat->Type}{tb:Tb S}
theorem u7(a:List UInt8):Lib.bytesOf (a.map fun c=>(c.toNat:Int))=a:=by
 unfold Lib.bytesOf;rw[List.map_map]
 conv=>rhs;rw[<- List.map_id a]
 exact List.map_congr_left fun c _=>by simp
theorem A8(l:List UInt8):∀x∈l.map fun c=>(c.toNat:Int),0<=x/\x<256:=by
 intro x hx;obtain⟨c,_,rfl⟩:=List.mem_map.1 hx;have:=c.toNat_lt;omega
end E
end
section
def Ad:Go.Shelf.Ren:=⟨fun|185=>139|187=>186|115=>152|253=>187|224=>188|254=>189|255=>233|291=>234|n=>n,fun|37=>38|3=>3|4=>4|0=>0|5=>5|46=>238|9=>9|146=>313|51=>202|n=>n,fun|1=>0|n=>n⟩
theorem JU:Go.Proofs.Lays.n185 Tryz.prog Ad:={
 mixed:=by kernel_rfl
 f115:=Tryz.func152.trans (congrArg some (by kernel_rfl))
 f185:=Tryz.func139.trans (congrArg some (by kernel_rfl))
 f187:=Tryz.func186.trans (congrArg some (by kernel_rfl))
 f224:=Tryz.func188.trans (congrArg some (by kernel_rfl))
 f253:=Tryz.func187.trans (congrArg some (by kernel_rfl))
 f254:=Tryz.func189.trans (congrArg some (by kernel_rfl))
 f255:=Tryz.func233.trans (congrArg some (by kernel_rfl))
 f291:=Tryz.func234.trans (congrArg some (by kernel_rfl))
 t0:=Tryz.underlying0
 a0:=Tryz.isAgg0
 z0:=Tryz.sizeOf0
 v0:=Tryz.zeroValue0
 t3:=Tryz.underlying3
 a3:=Tryz.isAgg3
 z3:=Tryz.sizeOf3
 v3:=Tryz.zeroValue3
 t4:=Tryz.underlying4
 a4:=Tryz.isAgg4
 z4:=Tryz.sizeOf4
 v4:=Tryz.zeroValue4
 t5:=Tryz.underlying5
 a5:=Tryz.isAgg5
 z5:=Tryz.sizeOf5
 v5:=Tryz.zeroValue5
 t9:=Tryz.underlying9
 a9:=Tryz.isAgg9
 z9:=Tryz.sizeOf9
 v9:=Tryz.zeroValue9
 t37:=Tryz.underlying38
 a37:=Tryz.isAgg38
 z37:=Tryz.sizeOf38
 v37:=Tryz.zeroValue38
 t46:=Tryz.underlying238
 a46:=Tryz.isAgg238
 z46:=Tryz.sizeOf238
 v46:=Tryz.zeroValue238
 t51:=Tryz.underlying202
 a51:=Tryz.isAgg202
 z51:=Tryz.sizeOf202
 v51:=Tryz.zeroValue202
 t146:=Tryz.underlying313
 a146:=Tryz.isAgg313
 z146:=Tryz.sizeOf313
 v146:=Tryz.zeroValue313
 g1:=by kernel_rfl}
end
section
open Go.RowKit G
open E
set_option maxRecDepth 100000
noncomputable section
def Oi:jr Sx:={f:=224,ins:=[.one (.zy (.int .u32)),.one (.zy (.int .i64))],ls:=[(.int .u32),(.int .i64)],outs:=[{out:=.one (.zy (.int .u32)),oV:=[(.int .u32)]}],yO:=fun x=>ey x.1 x.2}
theorem Nz:SX Oi:=fq Tryz.f224 [.tmp 4] {fn:=224} .o (dT)
end
end
end Go.Proofs.YtjfkdglgecgjfaaGreat
namespace Go.Proofs.YtjfkdglgecgjfaaGreat.R
open Go.RowKit Go.Shelf G
section
variable {w0 w:World}{ρ:gw}{h:HS}
theorem C9:∀{l:List AV} {b:List UInt8} {us:List Value},Ex l=some b->bD ρ l=some us->us.length=b.length/\∀i,i<b.length->us[i]?=some (.int .u8 ((b.map fun c=>(c.toNat:Int)).getD i 0))
 |[],b,us,e,hc=>by
  cases e;simp only[bD,ae]at hc;subst hc;exact⟨rfl,fun i hi=>by cases hi⟩
 |x::l,b,us,e,hc=>by
  obtain⟨u,us,rfl,h1,h2⟩:=b9 hc;unfold Ex at e;split at e
  . rename_i heq;cases heq
  . rename_i n l' heq;cases heq;split at e
    . rename_i hn;simp only[ab]at e;obtain⟨b',e1,rfl⟩:=e;obtain⟨k1,k2⟩:=C9 e1 h2;rw[cC h1];refine⟨by simp only[bm,k1],fun i hi=>?_⟩
      cases i with
      |zero=>
       have hle:=aj hn
       simp only[List.getElem?_cons_zero,aD,List.getD_cons_zero,ae,Value.int.injEq,true_and]
       have:(UInt8.ofNat n).toNat=n:=by simp only[UInt8.toNat_ofNat'];omega
       rw[this];rfl
      |succ i=>
       simp only[List.getElem?_cons_succ,aD,List.getD_cons_succ]
       exact k2 i (Nat.lt_of_succ_lt_succ hi)
    . cases e
  . cases e
theorem GQ{k:IntKind}{i:Int}{v:AV}(e:zQ k i=some v):v=.p (.int k i):=by
 cases i with
 |ofNat n=>cases n<;>(cases e;rfl)
 |negSucc n=>cases e;rfl
theorem GP{k:IntKind}{n:Nat}{v:AV}(e:qy k n=some v):v=.p (.int k (n:Int)):=by
 cases n<;>(cases e;rfl)
theorem Ec(H:WR w0 ρ h w){o f n z:Nat}{c:Option Nat}{x:Value}{a:List AV}{b:List UInt8}(hx:conv ρ (.sl o f n c z)=some x)(e:nu h 1 n (.sl o f n c z)=some a)(e2:Ex a=some b):
 ∃ad cap,x=.slice (some ad) n cap/\b.length=n/\(∀i,i<n->w.cell? (ad.add i)=some (.int .u8 ((b.map fun c=>(c.toNat:Int)).getD i 0)))/\(Oj n z c=true->n<=cap):=by
 simp only[nu,aa]at e
 obtain⟨cs,e1,e3⟩:=e
 obtain⟨L,hL,rfl⟩:=eo hx
 have ho:=H.obj _ _ _ (dF e1) hL
 obtain⟨us,k1,k2,k3⟩:=lh ho e3
 obtain⟨k4,k5⟩:=C9 e2 k1
 rw[Nat.mul_one]at k2
 refine⟨_,_,rfl,by omega,fun i hi=>k3 i _ (k5 i (by omega)),fun hb=>?_⟩
 cases c with
 |some cc=>exact aj hb
 |none=>
  have hz:=af (show Nat.beq z 1=true from hb)
  subst hz
  obtain⟨_,_,_,_,_,_,o4,_,_⟩:=ho
  obtain⟨rfl,e5⟩:=nT e3
  rw[aG,aZ]at e5
  show n<=(L.n-f)/1
  rw[Nat.div_one]
  omega
theorem MR{P:Program}{r:Go.Shelf.Ren}(L:Lays.n185 P r){m:Int}(hm:w.cell? ⟨r.g 1,0,none⟩=some (.int .i64 m))(H:WR w0 ρ h w){args:List AV}{vs:List Value}{v:AV}(e:MP h args=some v)(hc:bD ρ args=some vs):
 Calls P (r.f 185) vs.toArray w fun e w'=>∃u,e=.returned u/\conv ρ v=some u/\jX w w'/\∀b,b<w.heap.size->w'.heap[b]?=w.heap[b]?:=by
 unfold MP at e
 split at e
 . split at e
   . rename_i hb
     simp only[al]at hb
     obtain⟨⟨b1,b2⟩,b3⟩:=hb
     simp only[aa]at e
     obtain⟨x,e1,a,e2,y,e3,b,e4,e5⟩:=e
     obtain⟨x',as1,rfl,h1,hc⟩:=b9 hc
     obtain⟨y',as2,rfl,h2,hc⟩:=b9 hc
     simp only[bD,ae]at hc
     subst hc
     obtain⟨ad1,c1,rfl,l1,k1,kc⟩:=Ec H h1 e1 e2
     obtain⟨ad2,c2,rfl,l2,k2,_⟩:=Ec H h2 e3 e4
     have:=Any.bytes_Index_at L ad1 ad2 _ c1 _ c2 (a.map fun c=>(c.toNat:Int)) (b.map fun c=>(c.toNat:Int)) m w (by rw[aL,l1]) (by rw[aL,l2]) (E.A8 a) (E.A8 b) k1 k2 (kc b1)
      (Nat.lt_succ_of_le (aj b2)) (aj b3) hm
     refine this.mono fun e w' ⟨he,q,hw⟩=>⟨_,he,?_,?_,?_⟩
     . rw[E.u7,E.u7,GQ e5];rfl
     . subst hw;exact⟨rfl,rfl,rfl,Nat.le_refl _⟩
     . subst hw;exact fun _ _=>rfl
   . cases e
 . cases e
end
theorem Mi(k:Int):Bs .u64 (IntKind.u64.wrap k) 31=((Int.toNat (Int.emod k 32):Nat):Int):=by
 have e:(BitVec.ofInt 64 (IntKind.u64.wrap k) &&& BitVec.ofInt 64 31).toNat=Int.toNat (Int.emod k 32):=by
  rw[BitVec.toNat_and,BitVec.toNat_ofInt,BitVec.toNat_ofInt,show((31:Int) % ((2 ^ 64:Nat):Int)).toNat=2 ^ 5-1 from rfl,Nat.and_two_pow_sub_one_eq_mod];show((k % 18446744073709551616) % 18446744073709551616).toNat % 32=(k % 32).toNat;omega
 show IntKind.u64.wrap (((BitVec.ofInt 64 (IntKind.u64.wrap k) &&& BitVec.ofInt 64 31).toNat:Nat):Int)=_;rw[e];show((Int.toNat (k % 32):Nat):Int) % 18446744073709551616=((Int.toNat (k % 32):Nat):Int);omega
theorem Ku(a:Nat)(k:Int):ey (a:Int) k=some ((AN a (Int.toNat (Int.emod k 32)):Nat):Int):=by
 have hs:Int.toNat (Int.emod k 32)<32:=by show(k % 32).toNat<32;omega
 unfold ey;simp only[Mi];generalize Int.toNat (Int.emod k 32)=s at hs;have e2:IntKind.u64.wrap ((32:Int)-(s:Int))=((32-s:Nat):Int):=by
  show((32:Int)-(s:Int)) % 18446744073709551616=_;omega
 rw[e2];have c1:mC (0<=(s:Int))=some ():=by unfold mC;rw[if_pos (by omega)]
 have c2:mC (0<=((32-s:Nat):Int))=some ():=by unfold mC;rw[if_pos (by omega)]
 rw[c1,c2];simp only[ah,ae];have e3:B3 .u32 (a:Int) (s:Int)=((a*2 ^ s % 4294967296:Nat):Int):=by
  show((a:Int)*2 ^ (min (Int.toNat (s:Int)) 32)) % 4294967296=_;rw[aP,Nat.min_eq_left (by omega)];rw[Int.natCast_emod,Int.natCast_mul,Int.natCast_pow];rfl
 have e4:uM .u32 (a:Int) ((32-s:Nat):Int)=((a/2 ^ (32-s):Nat):Int):=by
  show(a:Int).fdiv (2 ^ (min (Int.toNat ((32-s:Nat):Int)) 32))=_;rw[aP,Nat.min_eq_left (by omega),Int.fdiv_eq_ediv_of_nonneg _ (Int.le_of_lt (Int.pow_pos (by decide)))];rw[Int.natCast_ediv,Int.natCast_pow];rfl
 rw[e3,e4];show IntKind.u32.wrap (((BitVec.ofInt 32 _ ||| BitVec.ofInt 32 _).toNat:Nat):Int)=_;rw[BitVec.ofInt_natCast,BitVec.ofInt_natCast,BitVec.toNat_or,BitVec.toNat_ofNat,BitVec.toNat_ofNat];show(((a*2 ^ s % 4294967296 % 4294967296 ||| a/2 ^ (32-s) % 4294967296:Nat):Int)) % 4294967296=_;have e5:(a*2 ^ s % 4294967296 % 4294967296 ||| a/2 ^ (32-s) % 4294967296)=AN a s:=by
  show _=(a <<< s ||| a >>> (32-s)) % 4294967296;rw[Nat.mod_mod,Nat.shiftLeft_eq,Nat.shiftRight_eq_div_pow,show 4294967296=2 ^ 32 from rfl,Nat.or_mod_two_pow]
 rw[e5];have:AN a s<4294967296:=Nat.mod_lt _ (by decide);omega
def Wd(w:World):Prop:=∃v:Int,w.cell? ⟨0,0,none⟩=some (.int .i64 v)
theorem Fi{w:World}(hw:Wd w)(a:Nat)(k:Int):Calls Tryz.prog xV #[.int .u32 (a:Int),.int .i64 k] w fun e w'=>∃u,e=.returned u/\u=.int .u32 ((AN a (Int.toNat (Int.emod k 32)):Nat):Int)/\jX w w'/\∀b,b<w.heap.size->w'.heap[b]?=w.heap[b]?:=by
 obtain⟨v,hv⟩:=hw;have h:=Nz.go ((a:Int),k) ((AN a (Int.toNat (Int.emod k 32)):Nat):Int) (fun _=>none) (Mem.all w) [.int .u32 (a:Int),.int .i64 k] [] (Ku a k) (fun _ _=>rfl)
  (fun ds args ds1 dP ds2 h1 h2 h3=>by
   have h1:some [(⟨.int .u32,(a:Int)⟩:E.eh E.Sx),⟨.int .i64,k⟩]=some ds:=h1;cases h1;have h2:some ([E.AV.one (.int .u32 (a:Int)),.one (.int .i64 k)],([]:List (E.eh E.Sx)))=some (args,ds1):=h2;cases h2;have h3:some (([]:List (E.AO E.Sx)),([]:List (E.eh E.Sx)))=some (dP,ds2):=h3;cases h3;refine⟨?_,rfl⟩;simp only[E.b6];exact⟨_,_,rfl,by simp only[E.bu,E.bt],_,_,rfl,by simp only[E.bu,E.bt],rfl⟩) rfl (Ow.nil _) ⟨Go.Proofs.YtjfkdglgecgjfaaGreat.pb hv,v,hv⟩
 have h:E.mG Tryz.prog xV _ _ _:=h;unfold E.mG at h;rw[if_pos (by decide)]at h;refine h.2.mono fun e w' ⟨u,m',L',he,hm,hS,hp⟩=>?_
 obtain⟨yZ,Ln,_,_,_,hp⟩:=hp;have hp:=(hp (E.FK yZ) id [⟨.int .u32,((AN a (Int.toNat (Int.emod k 32)):Nat):Int)⟩] (.one (.int .u32 ((AN a (Int.toNat (Int.emod k 32)):Nat):Int))) [] [] (fun i h hh=>hh) rfl rfl rfl).1;simp only[E.bu,E.bt,a6,and_true]at hp;subst hm;exact⟨u,he,hp,⟨hS.le.os,hS.le.tape,hS.le.output,hS.le.size⟩,fun b hb=>hS.kept b hb (by intro h;cases h)⟩
theorem rD(w0:World)(hw:Wd w0):ez Tryz.prog w0:=by
 intro f h args v ρ w vs e H hc;obtain⟨mv,hmv⟩:=hw;have hw1:w.cell? ⟨0,0,none⟩=some (.int .i64 mv):=by
  have hlt:0<w0.heap.size:=(Go.Proofs.YtjfkdglgecgjfaaGreat.pb hmv).2;simp only[World.cell?,H.out.kept 0 hlt]at hmv ⊢;exact hmv
 unfold tf at e;split at e
 . rename_i hb;unfold OB at e;split at e
   . rename_i hr;cases af hr;unfold O6 at e;split at e
     . rename_i a k;obtain⟨x',as1,rfl,h1,hc⟩:=b9 hc;obtain⟨y',as2,rfl,h2,hc⟩:=b9 hc;simp only[bD,ae]at hc;subst hc;rw[cC h1,cC h2];refine(Fi ⟨mv,hw1⟩ a k).mono fun e' w' ⟨u,he,hu,hs⟩=>⟨u,he,?_,hs⟩
       rw[GP e,hu];rfl
     . cases e
   . rename_i hr;have hf:f=GD:=by
      unfold MD at hb;rw[hr,Bool.false_or]at hb;exact af hb
     subst hf;exact MR JU hw1 H e hc
 . cases e
theorem Fm{f:FuncId}(hle:Nat.ble f 999999=true)(hen:Enters Tryz.prog f)(hg:∃s,vO Tryz.prog f=some s/\jA Tryz.prog Wd s):
 E.Sound Tryz.prog E.KT ({f:=f,ins:=[],ls:=[],outs:=[{out:=.one (.zy .bo),oV:=[.bo]}],yO:=fun _=>some true}:E.jr E.Sx):=by
 refine⟨fun x y bk m vals Lx hsem hbk Bh hLn hO hBm=>?_⟩
 obtain rfl:Lx=[]:=List.length_eq_zero_iff.1 hLn
 have h0:=(Bh [] [] [] [] [] rfl rfl rfl).1
 simp only[E.b6]at h0
 subst h0
 have hy:=ar hsem
 unfold E.mG
 rw[if_pos (aj hle)]
 refine⟨hen,Calls.mono (Ij hg m hBm.2) fun e w' ⟨v,m',L',he,hm,hS,hL,hv⟩=>?_⟩
 subst hL
 refine⟨v,m',[],he,hm,hS,?_⟩
 show E.CL E.KT 0 _ bk [] y _ m' []
 refine⟨fun _=>none,[],rfl,fun i hi=>absurd hi (by omega),fun _ _=>rfl,fun g ids ds out ds1 l _ hd hfill houts=>?_⟩
 have hd:some [(⟨.bo,y⟩:E.eh E.Sx)]=some ds:=hd
 cases hd
 have hfill:some (E.AV.one (E.Jb (show Bool from y)),([]:List (E.eh E.Sx)))=some (out,ds1):=hfill
 cases hfill
 have houts:some ([]:List (Nat×E.AO E.Sx))=some l:=houts
 cases houts
 exact⟨by simp only[E.bu,E.Jb,E.bt];rw[hv,<- hy],rfl⟩
end Go.Proofs.YtjfkdglgecgjfaaGreat.R
namespace Go.Proofs.YtjfkdglgecgjfaaGreat.R
open Go
noncomputable section
def cq(f:Nat)(p:List Nat):Code:=cd Tryz.prog f p
def oq(f:Nat)(p:List Nat):Array Oper:=od Tryz.prog f p
end
end Go.Proofs.YtjfkdglgecgjfaaGreat.R
