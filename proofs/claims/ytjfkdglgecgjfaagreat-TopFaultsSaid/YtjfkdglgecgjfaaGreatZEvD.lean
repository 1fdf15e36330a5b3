/- Part of the proof. -/
import Derived.Test.YtjfkdglgecgjfaaGreatZEvW
import Derived.Test.YtjfkdglgecgjfaaGreatRows
import Derived.ProofKit
import Derived.OpenShut
import Derived.ShutString
import Derived.ChangeOld
import Derived.Below
namespace Go.Proofs.YtjfkdglgecgjfaaGreat
section
open Go.RowKit G
namespace E
variable {S:Nat->Type}{tb:Tb S}{K:ep tb}{P:Program}{tt:TypeId->Option (TI S)}{Φ:List (dS S)}{fa:FA S}{g:GG S}{m:Mem}
structure Rec(S:Nat->Type) where
 σ:AS S
 σ1:AS S
 run:Bool
 res:ia S
def Rec.mv(r:Rec S)(o:Oper):Option Nat:=match r.run with|true=>mY r.σ1 o.op|false=>none
def Rec.next(r:Rec S)(o:Oper):AS S:=r.σ1.la o.dst (r.mv o) r.res
def Rec.bT(r:Rec S)(o:Oper):Nat:=(r.mv o).getD r.σ.ct
def Rec.wr(r:Rec S):List Nat:=r.res.rm++r.res.add.map (·.1)
def B9(ops:Array Oper)(gd:Option (Nat×Bool))(σ:AS S)(run:Bool)(σ1:AS S):Prop:=match gd with
 |none=>run=true/\σ1=σ
 |some (j,b)=>∃t bT v,sd ops j=some t/\σ.get t=some (bT,v)/\
  ((∃c,v=.one (.tt c)/\run=(c == b)/\σ1=σ)\/(∃c p d h c0,v=.one (.bo c p d h)/\(c0=true↔p)/\run=(c0 == b)/\σ1=σ.jm bT c0)\/(v=.dD []/\run=false/\σ1=σ))
theorem SF{γ:Type}{z:γ}{ops:Array Oper}{gd:Option (Nat×Bool)}{σ:AS S}{go:Bool->AS S->Option γ}(h:tp ops gd σ go=some z):∃run σ1,go run σ1=some z/\B9 ops gd σ run σ1:=by
 cases gd with
 |none=>exact⟨true,σ,h,rfl,rfl⟩
 |some jb=>
  obtain⟨j,b⟩:=jb
  simp only[tp]at h
  split at h
  . rename_i bT v hv
    obtain⟨t,ht,hv⟩:=aa.1 hv
    split at h
    . rename_i c _
      exact⟨_,σ,h,t,bT,_,ht,hv,.inl ⟨c,rfl,rfl,rfl⟩⟩
    . rename_i c p d hcp _
      split at h
      . rename_i hp
        exact⟨_,_,h,t,bT,_,ht,hv,.inr (.inl ⟨c,p,d,hcp,true,rfl,⟨fun _=>hp,fun _=>rfl⟩,by cases b<;>rfl,rfl⟩)⟩
      . rename_i hp
        exact⟨_,_,h,t,bT,_,ht,hv,.inr (.inl ⟨c,p,d,hcp,false,rfl,⟨fun h=>(by cases h),fun h=>absurd h hp⟩,by cases b<;>rfl,rfl⟩)⟩
    . cases h
  . rename_i bT hv
    obtain⟨t,ht,hv⟩:=aa.1 hv
    exact⟨_,σ,h,t,bT,_,ht,hv,.inr (.inr ⟨rfl,rfl,rfl⟩)⟩
  . cases h
theorem B9.ct{ops:Array Oper}{gd:Option (Nat×Bool)}{σ σ1:AS S}{run:Bool}(h:B9 ops gd σ run σ1):σ1.ct=σ.ct/\σ1.fb=σ.fb/\σ1.rt=σ.rt/\σ1.ob=σ.ob:=by
 cases gd with
 |none=>obtain⟨_,rfl⟩:=h;exact⟨rfl,rfl,rfl,rfl⟩
 |some jb=>
  obtain⟨t,bT,v,_,_,h⟩:=h
  rcases h with⟨c,_,_,rfl⟩|⟨c,p,d,hh,c0,_,_,_,rfl⟩|⟨_,_,rfl⟩<;>exact⟨rfl,rfl,rfl,rfl⟩
structure IG(P:Program)(K:ep tb)(tt:TypeId->Option (TI S))(ops:Array Oper)(o:Oper)(r:Rec S):Prop where
 gd:B9 ops o.guard r.σ r.run r.σ1
 yes:r.run=true->∃xs,qM tt r.σ1 (J0 o) o.op.operands.toList=some xs/\sL P K o xs r.σ1.ob r.σ1.ct r.res
 nd:gD (r.res.rd++r.res.rm)=true
 no:r.run=false->r.res={v:=AV.gH S}
 mv:∀bT,r.run=true->mY r.σ1 o.op=some bT->∃t,(o.op=.move (.tmp t)\/o.op=.assign (.tmp t))/\r.σ1.get t=some (bT,r.res.v)
def Trace(P:Program)(K:ep tb)(tt:TypeId->Option (TI S))(ops:Array Oper):List Oper->AS S->List (Rec S)->AS S->Prop
 |[],σ,[],σN=>σN=σ
 |o::rest,σ,r::tr,σN=>r.σ=σ/\IG P K tt ops o r/\Trace P K tt ops rest (r.next o) tr σN
 |_,_,_,_=>False
def G8:Nat->List (Rec S)->Log->Log
 |_,[],lg=>lg
 |i,r::tr,lg=>G8 (i+1) tr (match r.run with|true=>(i,r.res.rd,r.wr)::lg|false=>lg)
theorem zi:∀{l:List (Nat×Nat×AO S)},dH [] l=l
 |[]=>rfl
 |(q,x)::l=>by simp only[dH,has,zi]
theorem S5{o:Oper}{σ1:AS S}{xs:List (AV S)}{r:ia S}(hx:qM tt σ1 (J0 o) o.op.operands.toList=some xs)(hr:core tb tt Φ fa o xs σ1.ob σ1.ct some=some r){bT:Nat}(hm:mY σ1 o.op=some bT):
 ∃t,(o.op=.move (.tmp t)\/o.op=.assign (.tmp t))/\σ1.get t=some (bT,r.v):=by
 have key:∀t,(o.op=.move (.tmp t)\/o.op=.assign (.tmp t))->(σ1.get t).map (·.1)=some bT->σ1.get t=some (bT,r.v):=fun t ho hv=>by
  obtain⟨⟨vid',v⟩,hg,rfl⟩:=ab.1 hv;have hop:o.op.operands.toList=[.tmp t]:=by rcases ho with ho|ho<;>rw[ho]<;>rfl
  rw[hop]at hx;have hxs:xs=[v]:=by
   cases hty:J0 o with
   |nil=>rw[hty]at hx;simp[qM,pz,hg]at hx;exact hx.symm
   |cons a l=>rw[hty]at hx;simp[qM,pz,hg]at hx;exact hx.symm
  subst hxs;have:r={v:=v}:=by
   rcases ho with ho|ho<;>(unfold core at hr;simp only[ho,af]at hr;exact hr.symm)
  rw[this,hg]
 unfold mY at hm
 split at hm
 . rename_i t ho;exact⟨t,.inl ho,key t (.inl ho) hm⟩
 . rename_i t ho;exact⟨t,.inr ho,key t (.inr ho) hm⟩
 . cases hm
theorem CQ(hT:dx P K tt)(hΦ:∀c∈Φ,Sound P K c){ops:Array Oper}{γ:Type}{z:γ}:∀{rest:List Oper} {i:Nat} {σ:AS S} {lg:Log} {k:AS S->Log->Option γ},pf tb tt Φ fa false ops rest i σ lg k=some z->
 (∀o xs σ1,o∈rest->qM tt σ1 (J0 o) o.op.operands.toList=some xs->xs.length=o.op.operands.toList.length)->
 ∃tr σN,Trace P K tt ops rest σ tr σN/\k σN (G8 i tr lg)=some z
 |[],i,σ,lg,k,h,_=>⟨[],σ,rfl,h⟩
 |o::rest,i,σ,lg,k,h,hlen=>by
  simp only[pf,WG]at h;obtain⟨run,σ1,h1,hg⟩:=SF h
  cases run with
  |false=>
   simp only at h1
   have he:({σ1.put o.dst none (AV.gH S)with ct:=σ1.ct+64}:AS S)=σ1.la o.dst none {v:=AV.gH S}:=by
    unfold AS.la;have:(σ1.put o.dst none (AV.gH S)).ob=σ1.ob:=by cases o.dst<;>rfl
    simp only[ve,zi,aO,<- this]
   rw[he]at h1
   obtain⟨tr,σN,h2,h3⟩:=CQ hT hΦ h1 fun o xs σ1 ho=>hlen o xs σ1 (au _ ho)
   exact⟨⟨σ,σ1,false,{v:=AV.gH S}⟩::tr,σN,⟨rfl,⟨hg,fun h=>(by cases h),rfl,fun _=>rfl,fun _ h=>(by cases h)⟩,h2⟩,h3⟩
  |true=>
   simp only at h1
   split at h1
   . rename_i xs hxs
     rw[xd]at h1
     obtain⟨r,hr,h2⟩:=aa.1 h1
     obtain⟨r',hr',hO⟩:=NA hT hΦ (hlen o xs σ1 aq hxs) hr
     cases hr'
     split at h2
     . rename_i hn
       obtain⟨tr,σN,h3,h4⟩:=CQ hT hΦ h2 fun o xs σ1 ho=>hlen o xs σ1 (au _ ho)
       exact⟨⟨σ,σ1,true,r⟩::tr,σN,⟨rfl,⟨hg,fun _=>⟨xs,hxs,hO⟩,hn,fun h=>(by cases h),fun bT _ hm=>S5 hxs hr hm⟩,h3⟩,h4⟩
     . cases h2
   . cases h1
theorem DH{σ:AS S}:∀{l:List Operand} {ts:List TypeId} {xs:List (AV S)},qM tt σ ts l=some xs->xs.length=l.length
 |[],ts,xs,h=>by simp only[qM,af]at h;subst h;rfl
 |x::l,[],xs,h=>by
  simp only[qM]at h;obtain⟨v,hv,h⟩:=aa.1 h;obtain⟨r,hr,rfl⟩:=ab.1 h;simp[DH hr]
 |x::l,t::ts,xs,h=>by
  simp only[qM]at h;obtain⟨v,hv,h⟩:=aa.1 h;obtain⟨r,hr,rfl⟩:=ab.1 h;simp[DH hr]
def sj(tr:List (Rec S))(σN:AS S)(k:Nat):AS S:=match tr[k]? with|some r=>r.σ|none=>σN
theorem O0{ops:Array Oper}:∀{rest:List Oper} {σ σN:AS S} {tr:List (Rec S)},Trace P K tt ops rest σ tr σN->tr.length=rest.length/\sj tr σN 0=σ/\∀(k:Nat) o,rest[k]?=some o->∃r,tr[k]?=some r/\IG P K tt ops o r/\sj tr σN (k+1)=r.next o
 |[],σ,σN,[],h=>⟨rfl,h,fun k o hk=>by simp at hk⟩
 |[],_,_,_::_,h=>h.elim
 |_::_,_,_,[],h=>h.elim
 |o::rest,σ,σN,r::tr,h=>by
  obtain⟨rfl,h1,h2⟩:=h;obtain⟨k1,k2,k3⟩:=O0 h2;refine⟨by simp[k1],rfl,fun k o' hk=>?_⟩
  cases k with
  |zero=>
   simp at hk;subst hk
   exact⟨r,rfl,h1,by rw[<- k2];rfl⟩
  |succ k=>
   obtain⟨r',j1,j2,j3⟩:=k3 k o' (by simpa using hk)
   exact⟨r',by simpa using j1,j2,by rw[<- j3];rfl⟩
def Yb(rd wr:List Nat)(r:Rec S):Prop:=∃x,(x∈r.wr/\(x∈rd\/x∈wr))\/(x∈r.res.rd/\x∈wr)
theorem LV{ops:Array Oper}{i:Nat}{r:Rec S}{lg:Log}(h:xJ ops ((i,r.res.rd,r.wr)::lg)=true):xJ ops lg=true/\∀p∈lg,Yb p.2.1 p.2.2 r->D.pO ops p.1 i=true:=by
 simp only[xJ,al]at h;refine⟨h.2,fun p hp ⟨x,hx⟩=>?_⟩;have:=aE.1 h.1 p hp;simp only[Bool.or_eq_true,Bool.not_eq_true',Bool.or_eq_false_iff]at this;rcases this with h1|⟨h1,h2⟩
 . exact h1
 . exfalso;rcases hx with⟨hx,hy⟩|⟨hx,hy⟩
   . have:=List.any_eq_false.1 h1 x hx;simp only[Bool.or_eq_true,not_or,Bool.not_eq_true]at this;rcases hy with hy|hy
     . rw[jM.2 hy]at this;exact absurd this.1 (by simp)
     . rw[jM.2 hy]at this;exact absurd this.2 (by simp)
   . have:=List.any_eq_false.1 h2 x hx;rw[jM.2 hy]at this;exact absurd rfl this
theorem Om{ops:Array Oper}:∀{tr:List (Rec S)} {i:Nat} {lg:Log},xJ ops (G8 i tr lg)=true->xJ ops lg=true/\(∀p∈lg,∀(b:Nat) rb,tr[b]?=some rb->rb.run=true->Yb p.2.1 p.2.2 rb->D.pO ops p.1 (i+b)=true)/\
 ∀(a b:Nat) ra rb,a<b->tr[a]?=some ra->tr[b]?=some rb->ra.run=true->rb.run=true->Yb ra.res.rd ra.wr rb->D.pO ops (i+a) (i+b)=true
 |[],i,lg,h=>⟨h,fun p hp b rb hb=>by simp at hb,fun a b ra rb _ ha=>by simp at ha⟩
 |r::tr,i,lg,h=>by
  simp only[G8]at h;obtain⟨h1,h2,h3⟩:=Om h
  cases hr:r.run with
  |true=>
   rw[hr]at h1 h2
   obtain⟨k1,k2⟩:=LV h1
   refine⟨k1,fun p hp b rb hb hrun hc=>?_,fun a b ra rb hab ha hb hra hrb hc=>?_⟩
   . cases b with
     |zero=>simp at hb;subst hb;exact k2 p hp hc
     |succ b=>rw[show i+(b+1)=i+1+b by omega];exact h2 p (au _ hp) b rb (by simpa using hb) hrun hc
   . cases b with
     |zero=>omega
     |succ b=>
      cases a with
      |zero=>
       simp at ha;subst ha
       rw[show i+(b+1)=i+1+b by omega]
       exact h2 _ aq b rb (by simpa using hb) hrb hc
      |succ a=>
       rw[show i+(b+1)=i+1+b by omega,show i+(a+1)=i+1+a by omega]
       exact h3 a b ra rb (by omega) (by simpa using ha) (by simpa using hb) hra hrb hc
  |false=>
   rw[hr]at h1 h2
   refine⟨h1,fun p hp b rb hb hrun hc=>?_,fun a b ra rb hab ha hb hra hrb hc=>?_⟩
   . cases b with
     |zero=>simp at hb;subst hb;rw[hr]at hrun;cases hrun
     |succ b=>rw[show i+(b+1)=i+1+b by omega];exact h2 p hp b rb (by simpa using hb) hrun hc
   . cases b with
     |zero=>omega
     |succ b=>
      cases a with
      |zero=>simp at ha;subst ha;rw[hr]at hra;cases hra
      |succ a=>
       rw[show i+(b+1)=i+1+b by omega,show i+(a+1)=i+1+a by omega]
       exact h3 a b ra rb (by omega) (by simpa using ha) (by simpa using hb) hra hrb hc
def Rf(v0 v:AV S):Prop:=v=v0\/∃c p d h c0,v0=.one (.bo c p d h)/\(c0=true↔p)/\v=.one (.tt c0)
theorem Rf.refl(v:AV S):Rf v v:=.inl rfl
theorem Rf.bo{v0:AV S}{c:Bool}{p:Prop}{d:Decidable p}{h:c=true↔p}(k:Rf v0 (.one (.bo c p d h))):v0=.one (.bo c p d h):=by
 rcases k with k|⟨_,_,_,_,_,_,_,k⟩
 . exact k.symm
 . cases k
theorem Rf.ok{v0 v:AV S}{u:Value}(k:Rf v0 v)(h:bP K g m v0 u):bP K g m v u:=by
 rcases k with rfl|⟨c,p,d,hc,c0,rfl,h0,rfl⟩
 . exact h
 . simp only[bP,bM]at h ⊢;have:c=c0:=by
    cases c<;>cases c0<;>first|rfl|skip
    . exact absurd (hc.2 (h0.1 rfl)) (by simp)
    . exact absurd (h0.2 (hc.1 rfl)) (by simp)
   rw[<- this];exact h
section
variable {ops:Array Oper}{tr:List (Rec S)}{σs σN:AS S}
def Z6(tr:List (Rec S))(σs:AS S)(k bT:Nat)(v:AV S):Prop:=(∃j r,j<k/\tr[j]?=some r/\bT=σs.ct+64*j/\Rf r.res.v v)\/∃s0 v0,look s0 σs.tm=some (bT,v0)/\Rf v0 v
def Src(ops:Array Oper)(tr:List (Rec S))(σs:AS S)(k t bT:Nat):Prop:=(∃j o r,j<k/\ops[j]?=some o/\tr[j]?=some r/\o.dst=some t/\bT=r.bT o)\/((∀j o,j<k->ops[j]?=some o->o.dst≠some t)/\∃v0,look (σs.fb+t) σs.tm=some (bT,v0))
structure Syn(ops:Array Oper)(tr:List (Rec S))(σs:AS S)(k:Nat)(σ:AS S):Prop where
 ct:σ.ct=σs.ct+64*k
 fb:σ.fb=σs.fb
 rt:σ.rt=σs.rt
 ZD:∀s bT v,look s σ.tm=some (bT,v)->Z6 tr σs k bT v
 src:∀t bT v,look (σs.fb+t) σ.tm=some (bT,v)->Src ops tr σs k t bT
 low:∀s bT v,s<σs.fb->look s σ.tm=some (bT,v)->∃v0,look s σs.tm=some (bT,v0)
theorem F3{k:Nat}{gd:Option (Nat×Bool)}{σ σ1:AS S}{run:Bool}(h:Syn ops tr σs k σ)(hg:B9 ops gd σ run σ1):({σ1 with ct:=σ.ct}:AS S)=σ1/\(∀s bT v,look s σ1.tm=some (bT,v)->Z6 tr σs k bT v)/\(∀t bT v,look (σs.fb+t) σ1.tm=some (bT,v)->Src ops tr σs k t bT)/\∀s bT v,s<σs.fb->look s σ1.tm=some (bT,v)->∃v0,look s σs.tm=some (bT,v0):=by
 refine⟨by rw[<- hg.ct.1],?_⟩
 cases gd with
 |none=>obtain⟨_,rfl⟩:=hg;exact⟨h.ZD,h.src,h.low⟩
 |some jb=>
  obtain⟨t,vid0,v0,_,hget,hg⟩:=hg
  rcases hg with⟨c,_,_,rfl⟩|⟨c,p,d,hh,c0,rfl,h0,_,rfl⟩|⟨_,_,rfl⟩
  . exact⟨h.ZD,h.src,h.low⟩
  . have hO:=h.ZD _ _ _ hget
    have key:∀s bT v,look s (σ.jm vid0 c0).tm=some (bT,v)->∃v1,look s σ.tm=some (bT,v1)/\(v=v1\/bT=vid0/\v=.one (.tt c0)):=fun s bT v hs=>by
     unfold AS.jm at hs;rw[rM]at hs;obtain⟨⟨vid1,v1⟩,h1,h2⟩:=ab.1 hs;by_cases e:vid1=vid0
     . rw[if_pos e]at h2;cases h2;exact⟨v1,h1,.inr ⟨e,rfl⟩⟩
     . rw[if_neg e]at h2;cases h2;exact⟨_,h1,.inl rfl⟩
    refine⟨fun s bT v hs=>?_,fun t bT v hs=>?_,fun s bT v hlt hs=>?_⟩
    . obtain⟨v1,h1,h2⟩:=key _ _ _ hs
      rcases h2 with rfl|⟨rfl,rfl⟩
      . exact h.ZD _ _ _ h1
      . rcases hO with⟨j,r,j1,j2,j3,j4⟩|⟨s0,w0,j1,j2⟩
        . exact .inl ⟨j,r,j1,j2,j3,.inr ⟨c,p,d,hh,c0,j4.bo,h0,rfl⟩⟩
        . exact .inr ⟨s0,w0,j1,.inr ⟨c,p,d,hh,c0,j2.bo,h0,rfl⟩⟩
    . obtain⟨v1,h1,_⟩:=key _ _ _ hs
      exact h.src _ _ _ h1
    . obtain⟨v1,h1,_⟩:=key _ _ _ hs
      exact h.low _ _ _ hlt h1
  . exact⟨h.ZD,h.src,h.low⟩
theorem Z6.up{k k' bT:Nat}{v:AV S}(h:Z6 tr σs k bT v)(hk:k<=k'):Z6 tr σs k' bT v:=by
 rcases h with⟨j,r,j1,j2⟩|h
 . exact .inl ⟨j,r,by omega,j2⟩
 . exact .inr h
theorem Uv{k:Nat}{o:Oper}{r:Rec S}(h:Syn ops tr σs k r.σ)(ho:ops[k]?=some o)(hr:tr[k]?=some r)(hs:IG P K tt ops o r):Syn ops tr σs (k+1) (r.next o):=by
 obtain⟨_,h1,h2,h2'⟩:=F3 h hs.gd;obtain⟨c1,c2,c3,c4⟩:=hs.gd.ct;have hput:(r.next o).tm=(r.σ1.put o.dst (r.mv o) r.res.v).tm:=rfl;have hct:(r.next o).ct=r.σ1.ct+64:=rfl;have hfb:(r.next o).fb=r.σ1.fb:=by unfold Rec.next AS.la AS.put;cases o.dst<;>rfl
 have hrt:(r.next o).rt=r.σ1.rt:=by unfold Rec.next AS.la AS.put;cases o.dst<;>rfl
 refine⟨by rw[hct,c1,h.ct];omega,by rw[hfb,c2,h.fb],by rw[hrt,c3,h.rt],fun s bT v hl=>?_,fun t bT v hl=>?_,fun s bT v hlt hl=>?_⟩
 . rw[hput]at hl
   cases hd:o.dst with
   |none=>rw[hd]at hl;exact(h1 s bT v hl).up (by omega)
   |some d=>
    rw[hd]at hl
    have hl':look s ((r.σ1.fb+d,(r.mv o).getD r.σ1.ct,r.res.v)::qz (r.σ1.fb+d) r.σ1.tm)=some (bT,v):=hl
    rw[bN]at hl'
    by_cases e:r.σ1.fb+d=s
    . rw[if_pos e]at hl'
      cases hl'
      cases hm:r.mv o with
      |none=>exact .inl ⟨k,r,by omega,hr,by show r.σ1.ct=_;rw[c1,h.ct],Rf.refl _⟩
      |some bT=>
       unfold Rec.mv at hm
       split at hm
       . rename_i hrun
         obtain⟨t,_,k2⟩:=hs.mv bT hrun hm
         exact(h1 _ _ _ k2).up (by omega)
       . cases hm
    . rw[if_neg e,iz (Ne.symm e)]at hl'
      exact(h1 s bT v hl').up (by omega)
 . have up:∀bT v,o.dst≠some t->look (σs.fb+t) r.σ1.tm=some (bT,v)->Src ops tr σs (k+1) t bT:=fun bT v hd hl=>by
    rcases h2 _ _ _ hl with⟨j,o',r',j1,j2⟩|⟨j1,j2⟩
    . exact .inl ⟨j,o',r',by omega,j2⟩
    . refine .inr ⟨fun j o' hj ho'=>?_,j2⟩;by_cases e:j=k
      . subst e;rw[ho]at ho';cases ho';exact hd
      . exact j1 j o' (by omega) ho'
   rw[hput]at hl
   cases hd:o.dst with
   |none=>rw[hd]at hl;exact up bT v (by rw[hd];simp) hl
   |some d=>
    rw[hd]at hl
    have hl':look (σs.fb+t) ((r.σ1.fb+d,(r.mv o).getD r.σ1.ct,r.res.v)::qz (r.σ1.fb+d) r.σ1.tm)=some (bT,v):=hl
    rw[bN,c2,h.fb]at hl'
    by_cases e:σs.fb+d=σs.fb+t
    . rw[if_pos e]at hl'
      cases hl'
      exact .inl ⟨k,o,r,by omega,ho,hr,by rw[hd,Nat.add_left_cancel e],by unfold Rec.bT;rw[c1]⟩
    . rw[if_neg e,iz (Ne.symm e)]at hl'
      exact up bT v (by rw[hd];intro e';cases e';exact e rfl) hl'
 . rw[hput]at hl
   cases hd:o.dst with
   |none=>rw[hd]at hl;exact h2' s bT v hlt hl
   |some d=>
    rw[hd]at hl
    have hl':look s ((r.σ1.fb+d,(r.mv o).getD r.σ1.ct,r.res.v)::qz (r.σ1.fb+d) r.σ1.tm)=some (bT,v):=hl
    have e:¬ r.σ1.fb+d=s:=fun e=>by rw[c2,h.fb]at e;omega
    rw[bN,if_neg e,iz (Ne.symm e)]at hl'
    exact h2' s bT v hlt hl'
theorem OW(h:Trace P K tt ops ops.toList σs tr σN):∀k,k<=ops.size->Syn ops tr σs k (sj tr σN k)
 |0,_=>by
  obtain⟨_,h2,_⟩:=O0 h;rw[h2];exact⟨rfl,rfl,rfl,fun s bT v hs=>.inr ⟨s,v,hs,Rf.refl _⟩,fun t bT v hs=>.inr ⟨fun j o hj=>by omega,v,hs⟩,fun s bT v _ hs=>⟨v,hs⟩⟩
 |k+1,hk=>by
  obtain⟨_,_,h3⟩:=O0 h;have ho:ops.toList[k]?=some ops[k]:=by simp[show k<ops.size by omega]
  obtain⟨r,k1,k2,k3⟩:=h3 k _ ho;have ih:=OW h k (by omega);have:sj tr σN k=r.σ:=by unfold sj;rw[k1]
  rw[this]at ih;rw[k3];exact Uv ih (by simp at ho ⊢) k1 k2
end
theorem Tw{σ:AS S}{a:Act}(hT:dx P K tt):∀{l:List Operand} {ts:List TypeId} {xs:List (AV S)},(∀t bT v,Operand.tmp t∈l->σ.get t=some (bT,v)->bP K g m v (a.eval (.tmp t)))->qM tt σ ts l=some xs->oT K g m a l xs:=by
 have one:∀{t:TypeId} {x:Operand} {v:AV S},(∀t bT v,x=.tmp t->σ.get t=some (bT,v)->bP K g m v (a.eval (.tmp t)))->pz tt σ t x=some v->bP K g m v (a.eval x):=fun{t x v} hs h=>by
  cases x with
  |tmp u=>
   simp only[pz]at h
   obtain⟨⟨bT,v'⟩,hp,rfl⟩:=ab.1 h
   exact hs u bT _ rfl hp
  |const c=>exact CC hT h
  |func f=>
   simp only[pz,af]at h
   subst h
   simp only[bP,bM]
   exact⟨[],[],rfl,by simp only[iK],by simp only[iK]⟩
  |global _=>simp[pz]at h
 intro l
 induction l with
 |nil=>intro ts xs _ h;simp only[qM,af]at h;subst h;rfl
 |cons x l ih=>
  intro ts xs hs h
  cases ts with
  |nil=>
   simp only[qM]at h
   obtain⟨v,hv,h⟩:=aa.1 h
   obtain⟨r,hr,rfl⟩:=ab.1 h
   exact⟨v,r,rfl,one (fun t bT w e=>hs t bT w (by rw[e];exact aq)) hv,ih (fun t bT w hm=>hs t bT w (au _ hm)) hr⟩
  |cons t ts=>
   simp only[qM]at h
   obtain⟨v,hv,h⟩:=aa.1 h
   obtain⟨r,hr,rfl⟩:=ab.1 h
   exact⟨v,r,rfl,one (fun t bT w e=>hs t bT w (by rw[e];exact aq)) hv,ih (fun t bT w hm=>hs t bT w (au _ hm)) hr⟩
theorem Rz{ops:Array Oper}{n:Nat}(ht:D.tidy ops n=true){i j:Nat}(h:D.XB ops i j):i<j:=by
 induction h with
 |at_ ho he hb h=>have:=(D.pJ ht ho).2.1 _ he hb;omega
 |step ho he hb _ ih=>have:=(D.pJ ht ho).2.1 _ he hb;omega
theorem zD{q:Nat}:∀{l:List (Nat×AO S)} {v:Nat},q ∉ l.map (·.1)->look q (ve v l)=none
 |[],v,_=>rfl
 |(u,a)::l,v,h=>by
  simp only[aF,aB,not_or]at h;simp only[ve,bN,if_neg (Ne.symm h.1)];exact zD h.2
theorem Dm{q:Nat}:∀{l:List (Nat×AO S)} {v:Nat},q∈l.map (·.1)->∃x,look q (ve v l)=some x
 |[],v,h=>by cases h
 |(u,a)::l,v,h=>by
  simp only[ve,bN];by_cases e:u=q
  . rw[if_pos e];exact⟨_,rfl⟩
  . rw[if_neg e];simp only[aF,aB]at h;exact Dm (h.resolve_left fun e'=>e e'.symm)
theorem oC{q:Nat}{rm:List Nat}:∀{l:List (Nat×Nat×AO S)},look q (dH rm l)=if q∈rm then none else look q l
 |[]=>by simp[dH,look]
 |(u,x)::l=>by
  unfold dH;split
  . rename_i h;rw[oC,bN];by_cases e:u=q
    . subst e;rw[if_pos (jM.1 h),if_pos (jM.1 h)]
    . rw[if_neg e]
  . rename_i h;rw[bN,bN,oC];by_cases e:u=q
    . subst e;rw[if_pos rfl,if_pos rfl,if_neg fun h'=>by rw[jM.2 h']at h;cases h]
    . rw[if_neg e,if_neg e]
theorem FD{q v:Nat}{r:Rec S}{ob:List (Nat×Nat×AO S)}(h:q ∉ r.wr):look q (ve v r.res.add++dH r.res.rm ob)=look q ob:=by
 simp only[Rec.wr,bj,not_or]at h;rw[kU,zD h.2,oC,if_neg h.1]
theorem Qk{q v:Nat}{r:Rec S}{ob ob':List (Nat×Nat×AO S)}(h:q∈r.wr):look q (ve v r.res.add++dH r.res.rm ob)=look q (ve v r.res.add++dH r.res.rm ob'):=by
 simp only[Rec.wr,bj]at h;rw[kU,kU];by_cases ha:q∈r.res.add.map (·.1)
 . obtain⟨x,hx⟩:=Dm (v:=v) ha;rw[hx]
 . rw[zD ha,oC,oC,if_pos (h.resolve_right ha),if_pos (h.resolve_right ha)]
theorem yb{ob ob':List (Nat×Nat×AO S)}:∀{l:List Nat},(∀q∈l,look q ob=look q ob')->pick ob l=pick ob' l
 |[],_=>rfl
 |q::l,h=>by
  simp only[pick,h q aq,yb fun r hr=>h r (au _ hr)]
theorem FT:∀{ob:List (Nat×Nat×AO S)},(ob.map (·.1)).Nodup->pick ob (ob.map (·.1))=ob
 |[],_=>rfl
 |(u,x)::l,h=>by
  simp only[aF]at h ⊢;obtain⟨h1,h2⟩:=List.nodup_cons.1 h;simp only[pick,bN,if_pos];congr 1;exact(yb (ob':=l) fun q hq=>by rw[bN,if_neg fun e=>h1 (by rw[e];exact hq)]).trans (FT h2)
section
variable {n:Nat}{ds:Cx}{B:List Nat}{m0:Mem}{rb:Nat->Option Gh}{rr:Option Nat}
structure DI(K:ep tb)(n:Nat)(ds:Cx)(B:List Nat)(m0:Mem)(ops:Array Oper)(tr:List (Rec S))(σs σN:AS S)(gs:GG S)(aS:Act)(ms:Mem)(l:Array Bool)(a:Act)(m:Mem)(g:GG S)(cur:List (Nat×Nat×AO S))(L:List bR):Prop where
 Dp:l.size=ops.size
 size:a.tmps.size=n
 defers:a.defers=ds.d
 rest:∀t,(∀i o,ops[i]?=some o->D.l8 l i->o.dst≠some t)->a.eval (.tmp t)=aS.eval (.tmp t)
 done:∀(i:Nat) o r d,ops[i]?=some o->tr[i]?=some r->D.l8 l i->o.dst=some d->g.vv (r.bT o)=some (a.eval (.tmp d))
 val:∀(i:Nat) r u,tr[i]?=some r->D.l8 l i->g.vv (σs.ct+64*i)=some u->bP K g m r.res.v u
 HJ:∀i,i<ops.size->¬ D.l8 l i->∀x,σs.ct+64*i<=x->x<σs.ct+64*i+64->g.bk x=none/\g.vv x=none/\g.oo x=none
 XE:∀x,σs.ct+64*ops.size<=x->g.bk x=none/\g.vv x=none/\g.oo x=none
 closed:∀j o,ops[j]?=some o->D.l8 l j->∀e∈o.after,Region.binds .any e=true->D.l8 l e.on
 ge:GE gs g
 le:Le ms m
 ob:eW K g m cur L
 st:St B m0 m (L++ds.X)
 cur:∀q,∃k,k<=ops.size/\look q cur=look q (sj tr σN k).ob/\(∀(j:Nat) r,j<k->tr[j]?=some r->q∈r.wr->D.l8 l j)/\∀(j:Nat) r,k<=j->tr[j]?=some r->D.l8 l j->q ∉ r.wr
theorem NJ(hT:dx P K tt)(hΦ:∀c∈Φ,Sound P K c)(hm:P.follows .mixedOrders=true):F9 P K tt Φ fa n B m0 rb rr ds:=by
 intro id ops γ κ z σs gs aS ms Ls Q h hc hIs hQ;simp only[codeOk,Bool.not_true,Bool.false_or,al]at hc;obtain⟨hdst,ht⟩:=hc;obtain⟨tr,σN,hTr,hk⟩:=CQ hT hΦ h fun o xs σ1 _ hx=>DH hx
 split at hk
 case h_2=>cases hk
 case h_1 hlg=>
 simp only[Bool.not_true,Bool.false_or,al]at hlg;have hlog:=(Om hlg.1).2.2;have hnd:=iR hlg.2;obtain⟨hlen,hst0,htr⟩:=O0 hTr;have hsyn:=OW hTr;have rec_at:∀(i:Nat) o,ops[i]?=some o->∃r,tr[i]?=some r/\IG P K tt ops o r/\sj tr σN (i+1)=r.next o/\sj tr σN i=r.σ:=fun i o ho=>by
  obtain⟨r,k1,k2,k3⟩:=htr i o (by simpa using ho);exact⟨r,k1,k2,k3,by unfold sj;rw[k1]⟩
 have rec_at':∀(i:Nat) r,tr[i]?=some r->∃o,ops[i]?=some o/\IG P K tt ops o r/\sj tr σN (i+1)=r.next o/\sj tr σN i=r.σ:=fun i r hr=>by
  have hi:i<tr.length:=(List.getElem?_eq_some_iff.1 hr).1;rw[hlen]at hi;have hi:i<ops.size:=by simpa using hi
  have ho:ops[i]?=some ops[i]:=by simp[hi]
  obtain⟨r',k1,k2⟩:=rec_at i _ ho;rw[hr]at k1;cases k1;exact⟨_,ho,k2⟩
 have obN:∀(i:Nat) r o,tr[i]?=some r->ops[i]?=some o->(sj tr σN (i+1)).ob=ve (r.σ.ct+32) r.res.add++dH r.res.rm (sj tr σN i).ob:=fun i r o hr ho=>by
  obtain⟨r',k1,k2,k3,k4⟩:=rec_at i o ho;rw[hr]at k1;cases k1;obtain⟨c1,_,_,c4⟩:=k2.gd.ct;rw[k3,k4,<- c4,<- c1];rfl
 have obSame:∀q a b,a<=b->b<=ops.size->(∀(j:Nat) r,a<=j->j<b->tr[j]?=some r->q ∉ r.wr)->look q (sj tr σN b).ob=look q (sj tr σN a).ob:=fun q a b hab=>by
  induction b with
  |zero=>intro _ _;have:a=0:=by omega
         subst this;rfl
  |succ b ih=>
   intro hb hj
   by_cases e:a=b+1
   . subst e;rfl
   . have ho:ops[b]?=some ops[b]:=by simp[show b<ops.size by omega]
     obtain⟨r,k1,_⟩:=rec_at b _ ho
     rw[obN b r _ k1 ho,FD (hj b r (by omega) (by omega) k1)]
     exact ih (by omega) (by omega) fun j r h1 h2 h3=>hj j r h1 (by omega) h3
 have writer_eq:∀(i:Nat) o d,ops[i]?=some o->o.dst=some d->D.writer ops d=some i:=fun i o d ho hd=>((D.pJ ht ho).1 d hd).1
 have fin:∀l a m g cur L,DI K n ds B m0 ops tr σs σN gs aS ms l a m g cur L->Region.ready .any ops l=[]->Q .normal a m.w:=fun l a m g cur L I hr=>by
  have hd:=D.Cf ht I.Dp hr;have hs:=hsyn ops.size (Nat.le_refl _);have hN:sj tr σN ops.size=σN:=by
   unfold sj;rw[List.getElem?_eq_none (by rw[hlen];simp)]
  rw[hN]at hs;obtain⟨zz,hz1,hz2,hz3⟩:=py I.ob;obtain⟨Y,hY⟩:=me (z:=zz) hnd;have hpk:pick cur (σN.ob.map (·.1))=σN.ob:=by
   rw[yb (ob':=σN.ob) fun q _=>?_]
   . exact FT hnd
   . obtain⟨k,k1,k2,k3,k4⟩:=I.cur q;have e:=obSame q k ops.size k1 (Nat.le_refl _) fun j r h1 h2 h3=>k4 j r h1 h3 (hd j h2)
     rw[hN]at e;rw[k2];exact e.symm
  refine hQ σN g a m ((eh zz (σN.ob.map (·.1))).map Prod.snd) hk I.ge I.le ⟨I.size,I.defers,fun t bT v hl=>?_,fun s bT v hl=>?_,?_,?_,fun x hx=>I.XE x (by rw[<- hs.ct];exact hx),⟨hIs.rt.1,fun j q hj=>?_⟩⟩
  . rw[hs.fb]at hl;rcases hs.src _ _ _ hl with⟨j,o,r,j1,j2,j3,j4,j5⟩|⟨j1,v0,j2⟩
    . rw[j5];exact I.done j o r t j2 j3 (hd j j1) j4
    . have:=hIs.at_ _ _ _ j2;rw[I.rest t fun i o ho _=>j1 i o (Array.getElem?_eq_some_iff.1 ho).1 ho];exact I.ge.vv _ _ this
  . have hu:∃u,g.vv bT=some u:=by
     by_cases hlt:s<σs.fb
     . obtain⟨v0,h0⟩:=hs.low s bT v hlt hl;obtain⟨u,h1,_⟩:=hIs.tm _ _ _ h0;exact⟨u,I.ge.vv _ _ h1⟩
     . have e:s=σs.fb+(s-σs.fb):=by omega
       rw[e]at hl;rcases hs.src _ _ _ hl with⟨j,o,r,j1,j2,j3,j4,j5⟩|⟨j1,v0,j2⟩
       . rw[j5];exact⟨_,I.done j o r _ j2 j3 (hd j j1) j4⟩
       . exact⟨_,I.ge.vv _ _ (hIs.at_ _ _ _ j2)⟩
    obtain⟨u,hu⟩:=hu;rcases hs.ZD _ _ _ hl with⟨j,r,j1,j2,j3,j4⟩|⟨s0,v0,j1,j2⟩
    . exact⟨u,hu,j4.ok (I.val j r u j2 (hd j j1) (by rw[<- j3];exact hu))⟩
    . obtain⟨u',h1,h2⟩:=hIs.tm _ _ _ j1;have:=I.ge.vv _ _ h1;rw[hu]at this;cases this;exact⟨u,hu,j2.ok (h2.mono I.ge I.le)⟩
  . have h1:eW K g m (pick cur (σN.ob.map (·.1))) ((eh zz (σN.ob.map (·.1))).map Prod.snd):=by
     rw[<- hz1,<- mc];exact nF fun p hp=>by
      obtain⟨q,_,hq⟩:=List.mem_filterMap.1 hp;exact hz3 p (gC hq).1
    rw[hpk]at h1;exact h1
  . have h1:List.Perm L ((eh zz (σN.ob.map (·.1))).map Prod.snd++Y.map Prod.snd):=by
     rw[<- hz2,<- bB];exact hY.map _
    exact Ko I.st h1
  . rw[hs.rt]at hj;obtain⟨h,h1,h2⟩:=hIs.rt.2 j q hj;exact⟨h,h1,I.ge.bk _ _ h2⟩
 have step:∀l a m g cur L,DI K n ds B m0 ops tr σs σN gs aS ms l a m g cur L->∀i∈Region.ready .any ops l,∀(KK:Act->World->Prop),(∀a' m' g' cur' L',DI K n ds B m0 ops tr σs σN gs aS ms (l.setIfInBounds i true) a' m' g' cur' L'->KK a' m'.w)->wpOpIn (FW rr) 0 P ops Q i KK a m.w:=fun l a m g cur L I i hi KK hKK=>by
  obtain⟨h0,o,ho,hall⟩:=Go.mem_ready.1 hi;have hlt:i<ops.size:=(Array.getElem?_eq_some_iff.1 ho).1;have hll:i<l.size:=by have:=I.Dp;omega
  have hnl:¬ D.l8 l i:=(D.rH hll).1 h0;have hall':∀e∈o.after,Region.binds .any e=true->D.l8 l e.on:=hall;obtain⟨t1,t2,t3⟩:=D.pJ ht ho;have before:∀j,D.pO ops j i=true->D.l8 l j:=fun j hj=>D.nQ I.closed j i o ho hall' hj
  have behind:∀j oj,ops[j]?=some oj->D.pO ops i j=true->¬ D.l8 l j:=fun j oj hoj hj hl'=>hnl (D.nQ I.closed i j oj hoj (I.closed j oj hoj hl') hj)
  obtain⟨r,hr,hst,hnx,hσ⟩:=rec_at i o ho;have hsy:=hsyn i (by omega);rw[hσ]at hsy;obtain⟨_,g1,g2,_⟩:=F3 hsy hst.gd;obtain⟨c1,c2,c3,c4⟩:=hst.gd.ct;have src_ok:∀t bT,t∈o.looksAt ops->Src ops tr σs i t bT->g.vv bT=some (a.eval (.tmp t)):=fun t bT hta hs=>by
   rcases hs with⟨j,oj,rj,j1,j2,j3,j4,j5⟩|⟨j1,v0,j2⟩
   . have hj:D.l8 l j:=by
      rcases t3 t hta j (writer_eq j oj t j2 j4)with h|h|h
      . exact before j h
      . have:=Rz ht (D.ur h);omega
      . omega
     rw[j5];exact I.done j oj rj t j2 j3 hj j4
   . rw[I.rest t fun j oj hoj hj hdt=>?_]
     . exact I.ge.vv _ _ (hIs.at_ _ _ _ j2)
     . rcases t3 t hta j (writer_eq j oj t hoj hdt)with h|h|h
       . exact j1 j oj (Rz ht (D.ur h)) hoj hdt
       . exact behind j oj hoj h hj
       . subst h;exact hnl hj
  have org_ok:∀bT v u,Z6 tr σs i bT v->g.vv bT=some u->bP K g m v u:=fun bT v u hO hu=>by
   rcases hO with⟨j,rj,j1,j2,j3,j4⟩|⟨s0,v0,j1,j2⟩
   . by_cases hj:D.l8 l j
     . exact j4.ok (I.val j rj u j2 hj (by rw[<- j3];exact hu))
     . have:=(I.HJ j (by omega) hj bT (by omega) (by omega)).2.1;rw[hu]at this;cases this
   . obtain⟨u',h1,h2⟩:=hIs.tm _ _ _ j1;have:=I.ge.vv _ _ h1;rw[hu]at this;cases this;exact j2.ok (h2.mono I.ge I.le)
  have slot1:∀t bT v,t∈o.looksAt ops->r.σ1.get t=some (bT,v)->g.vv bT=some (a.eval (.tmp t))/\bP K g m v (a.eval (.tmp t)):=fun t bT v hta hg=>by
   have hg':look (r.σ1.fb+t) r.σ1.tm=some (bT,v):=hg;rw[c2,hsy.fb]at hg';have h1:=src_ok t bT hta (g2 _ _ _ hg');exact⟨h1,org_ok bT v _ (g1 _ _ _ hg') h1⟩
  have hkn:∀t,Kn n a [(t,a.eval (.tmp t))] ds.d:=fun t=>⟨I.size,I.defers,Ke.cons rfl (Ke.nil a)⟩
  have hwant:Region.wanted o (yielded ops a.tmps)=r.run:=by
   have hgd:=hst.gd
   cases hg:o.guard with
   |none=>rw[hg]at hgd;rw[hgd.1];simp[Region.wanted,hg]
   |some jb=>
    obtain⟨j,b⟩:=jb
    rw[hg]at hgd
    obtain⟨t,bT,v,hsl,hget,hgd⟩:=hgd
    have hta:t∈o.looksAt ops:=by
     unfold Oper.looksAt;unfold sd at hsl;simp[hg,hsl]
    have hget':look (r.σ.fb+t) r.σ.tm=some (bT,v):=hget
    rw[hsy.fb]at hget'
    have e1:=src_ok t bT hta (hsy.src _ _ _ hget')
    have e2:=org_ok bT v _ (hsy.ZD _ _ _ hget') e1
    have yes:∀c,a.eval (.tmp t)=.bool c->(c == b)=true->Region.wanted o (yielded ops a.tmps)=true:=fun c hc hcb=>
     Ao (hkn t) (by simp only[tq,hg,hsl,lk,Nat.beq_refl,hc];exact hcb)
    have no:∀c,a.eval (.tmp t)=.bool c->(c !=b)=true->Region.wanted o (yielded ops a.tmps)=false:=fun c hc hcb=>
     mP (hkn t) (by simp only[rD,hg,hsl,lk,Nat.beq_refl,hc];exact hcb)
    have fromB:∀c,a.eval (.tmp t)=.bool c->Region.wanted o (yielded ops a.tmps)=(c == b):=fun c hc=>by
     cases hcb:c == b with
     |true=>exact yes c hc hcb
     |false=>exact no c hc (by simp[bne,hcb])
    rcases hgd with⟨c,rfl,hrun,_⟩|⟨c,p,d,hh,c0,rfl,hc0,hrun,_⟩|⟨rfl,hrun,_⟩
    . simp only[bP,bM,bc,and_true]at e2
      rw[hrun];exact fromB c e2
    . simp only[bP,bM,bc,and_true]at e2
      have:c=c0:=by
       cases c<;>cases c0<;>first|rfl|skip
       . exact absurd (hh.2 (hc0.1 rfl)) (by simp)
       . exact absurd (hc0.2 (hh.1 rfl)) (by simp)
      subst this
      rw[hrun];exact fromB c e2
    . simp only[bP,db]at e2
      obtain⟨l',e2,rfl⟩:=e2
      rw[hrun]
      refine mP (hkn t) ?_
      simp only[rD,hg,hsl,lk,Nat.beq_refl,e2]
  have hdi:∀d,o.dst=some d->d<n:=xh (aE.1 hdst o (by
   have:=List.mem_of_getElem? (l:=ops.toList) (i:=i) (by simpa using ho);exact this))
  have next:∀v m' g' cur' L',GE g g'->Le m m'->eW K g' m' cur' L'->St B m0 m' (L'++ds.X)->cur'=ve (r.σ.ct+32) r.res.add++dH r.res.rm cur->(∀d,o.dst=some d->g'.vv (r.bT o)=some v)->(∀u,g'.vv (σs.ct+64*i)=some u->bP K g' m' r.res.v u)->
   (∀x,(x<σs.ct+64*i\/σs.ct+64*i+64<=x)->g'.bk x=g.bk x/\g'.vv x=g.vv x/\g'.oo x=g.oo x)->DI K n ds B m0 ops tr σs σN gs aS ms (l.setIfInBounds i true) (a.put o.dst v) m' g' cur' L':=fun v m' g' cur' L' hge hle hob hs hcur hvid hval hout=>by
   have hev:∀t,o.dst≠some t->(a.put o.dst v).eval (.tmp t)=a.eval (.tmp t):=fun t hne=>by
    cases hd:o.dst with
    |none=>rfl
    |some d=>exact Act.eval_put (fun d' hd' e'=>by cases hd';cases e';exact hne hd)
   have sl:∀k,D.l8 (l.setIfInBounds i true) k↔k=i\/D.l8 l k:=fun k=>D.ji hll k
   refine⟨by simpa using I.Dp,?_,?_,fun t hne=>?_,fun j oj rj d hoj hrj hj hd=>?_,fun j rj u hrj hj hu=>?_,fun j hjs hj x hx1 hx2=>?_,fun x hx=>?_,fun j oj hoj hj e he hbd=>?_,I.ge.trans hge,I.le.trans hle,hob,hs,fun q=>?_⟩
   . rw[<- I.size];cases hd:o.dst<;>simp[Act.put]
   . rw[<- I.defers];cases hd:o.dst<;>rfl
   . rw[hev t fun hd=>hne i o ho ((sl i).2 (.inl rfl)) hd]
     exact I.rest t fun j oj hoj hj=>hne j oj hoj ((sl j).2 (.inr hj))
   . rcases(sl j).1 hj with rfl|hj'
     . rw[ho]at hoj;cases hoj
       rw[hr]at hrj;cases hrj
       rw[hvid d hd,hd,D.iU (by rw[I.size];exact hdi d hd)]
     . have hne:o.dst≠some d:=fun hd'=>by
        have h1:=writer_eq i o d ho hd';rw[writer_eq j oj d hoj hd]at h1;cases h1;exact hnl hj'
       rw[hev d hne]
       exact hge.vv _ _ (I.done j oj rj d hoj hrj hj' hd)
   . rcases(sl j).1 hj with rfl|hj'
     . rw[hr]at hrj;cases hrj
       exact hval u hu
     . by_cases e:j=i
       . subst e;exact absurd hj' hnl
       . have:=(hout (σs.ct+64*j) (by omega)).2.1
         rw[this]at hu
         exact(I.val j rj u hrj hj' hu).mono hge hle
   . have hne:j≠i:=fun e=>hj ((sl j).2 (.inl e))
     have hj':¬ D.l8 l j:=fun h=>hj ((sl j).2 (.inr h))
     obtain⟨o1,o2,o3⟩:=hout x (by omega)
     rw[o1,o2,o3]
     exact I.HJ j hjs hj' x hx1 hx2
   . obtain⟨o1,o2,o3⟩:=hout x (by omega)
     rw[o1,o2,o3]
     exact I.XE x hx
   . rw[sl]
     rcases(sl j).1 hj with rfl|hj'
     . rw[ho]at hoj;cases hoj
       exact .inr (hall' e he hbd)
     . exact .inr (I.closed j oj hoj hj' e he hbd)
   . obtain⟨k,k1,k2,k3,k4⟩:=I.cur q
     by_cases hq:q∈r.wr
     . have hrun:r.run=true:=by
        cases hrun:r.run with
        |true=>rfl
        |false=>rw[Rec.wr,hst.no hrun]at hq;simp at hq
       refine⟨i+1,by omega,?_,fun j rj hj hrj hw=>?_,fun j rj hj hrj hjl=>?_⟩
       . rw[hcur,obN i r o hr ho];exact Qk hq
       . by_cases e:j=i
         . exact(sl j).2 (.inl e)
         . have hrunj:rj.run=true:=by
            cases hrun:rj.run with
            |true=>rfl
            |false=>
             obtain⟨oj,_,hstj,_⟩:=rec_at' j rj hrj
             rw[Rec.wr,hstj.no hrun]at hw;simp at hw
           have:=hlog j i rj r (by omega) hrj hr hrunj hrun ⟨q,.inl ⟨hq,.inr hw⟩⟩
           rw[aL,aL]at this
           exact(sl j).2 (.inr (before j this))
       . intro hw
         rcases(sl j).1 hjl with e|hjl'
         . omega
         . have hrunj:rj.run=true:=by
            cases hrun:rj.run with
            |true=>rfl
            |false=>
             obtain⟨oj,_,hstj,_⟩:=rec_at' j rj hrj
             rw[Rec.wr,hstj.no hrun]at hw;simp at hw
           have:=hlog i j r rj (by omega) hr hrj hrun hrunj ⟨q,.inl ⟨hw,.inr hq⟩⟩
           rw[aL,aL]at this
           obtain⟨oj,hoj,_⟩:=rec_at' j rj hrj
           exact behind j oj hoj this hjl'
     . refine⟨k,k1,?_,fun j rj hj hrj hw=>(sl j).2 (.inr (k3 j rj hj hrj hw)),fun j rj hj hrj hjl=>?_⟩
       . rw[hcur,FD hq];exact k2
       . rcases(sl j).1 hjl with rfl|hjl'
         . rw[hr]at hrj;cases hrj;exact hq
         . exact k4 j rj hj hrj hjl'
  have hct:r.σ.ct=σs.ct+64*i:=hsy.ct;unfold wpOpIn;simp only[ho]
  cases hrun:r.run with
  |false=>
   rw[if_neg (by rw[hwant,hrun];simp)]
   have geu:GE g {g with vv:=fun x=>if x=σs.ct+64*i then some undef else g.vv x}:=⟨fun _ _ h=>h,fun x y hy=>by
    show(if x=σs.ct+64*i then some undef else g.vv x)=_;rw[if_neg fun e=>by rw[e,(I.HJ i hlt hnl _ (Nat.le_refl _) (by omega)).2.1]at hy;cases hy];exact hy,fun _ _ h=>h⟩
   refine⟨fun _ _=>trivial,hKK _ m _ cur L (next undef m _ cur L geu (Le.refl m) (I.ob.mono geu (Le.refl m)) I.st ?_ ?_ ?_ fun x hx=>⟨rfl,by
    show(if x=σs.ct+64*i then some undef else g.vv x)=_;rw[if_neg (by omega)],rfl⟩)⟩
   . rw[hst.no hrun];simp only[ve,zi,aO]
   . intro d hd
     have:r.bT o=σs.ct+64*i:=by unfold Rec.bT Rec.mv;rw[hrun,<- hct];rfl
     rw[this]
     show(if σs.ct+64*i=σs.ct+64*i then some undef else g.vv (σs.ct+64*i))=some undef
     rw[if_pos rfl]
   . intro u hu
     have:u=undef:=by
      have h1:(if σs.ct+64*i=σs.ct+64*i then some undef else g.vv (σs.ct+64*i))=some u:=hu;rw[if_pos rfl]at h1;exact(ax h1).symm
     subst this
     rw[hst.no hrun]
     simp only[AV.gH,bP,db]
     exact⟨[],rfl,rfl⟩
  |true=>
   rw[if_pos (by rw[hwant,hrun])]
   obtain⟨xs,hxs,hO⟩:=hst.yes hrun
   have inop:∀t,Operand.tmp t∈o.op.operands.toList->t∈o.looksAt ops:=fun t hm=>by
    unfold Oper.looksAt;refine aU _ (List.mem_filterMap.2 ⟨_,hm,rfl⟩)
   have hopr:=Tw (K:=K) (g:=g) (m:=m) (a:=a) hT (fun t bT v hm hg=>(slot1 t bT v (inop t hm) hg).2) hxs
   have lookq:∀q,(q∈r.res.rd\/q∈r.wr)->look q cur=look q (sj tr σN i).ob:=fun q hq=>by
    obtain⟨k,k1,k2,k3,k4⟩:=I.cur q;rw[k2];have runs:∀(j:Nat) rj,tr[j]?=some rj->q∈rj.wr->rj.run=true:=fun j rj hrj hw=>by
     cases hrun:rj.run with
     |true=>rfl
     |false=>
      obtain⟨oj,_,hstj,_⟩:=rec_at' j rj hrj
      rw[Rec.wr,hstj.no hrun]at hw;simp at hw
    by_cases hki:k<=i
    . refine(obSame q k i hki (by omega) fun j rj h1 h2 h3 hw=>?_).symm;have:=hlog j i rj r h2 h3 hr (runs j rj h3 hw) hrun ⟨q,hq.elim (fun h=>.inr ⟨h,hw⟩) fun h=>.inl ⟨h,.inr hw⟩⟩;rw[aL,aL]at this;exact k4 j rj h1 h3 (before j this) hw
    . refine obSame q i k (by omega) k1 fun j rj h1 h2 h3 hw=>?_
      have hj:=k3 j rj h2 h3 hw;by_cases e:j=i
      . subst e;exact hnl hj
      . have:=hlog i j r rj (by omega) hr h3 hrun (runs j rj h3 hw) ⟨q,.inl ⟨hw,hq⟩⟩;rw[aL,aL]at this;obtain⟨oj,hoj,_⟩:=rec_at' j rj h3;exact behind j oj hoj this hj
   obtain⟨Lr,Lm,Lz,R,Y,h1,h2,h3,p1,p2⟩:=xY I.ob (iR hst.nd)
   have hOw:Ow m (Lr++Lm):=(I.st.ow.left.perm p1).left
   have hob1:r.σ1.ob=(sj tr σN i).ob:=by rw[c4,hσ]
   have hct1:r.σ1.ct=σs.ct+64*i:=by rw[c1,hct]
   rw[yb (ob':=r.σ1.ob) fun q hq=>by rw[hob1];exact lookq q (.inl hq)]at h1
   rw[yb (ob':=r.σ1.ob) fun q hq=>by rw[hob1];exact lookq q (.inr (aU _ hq))]at h2
   have hfr:=I.HJ i hlt hnl
   have key:=hO.did g a m Lr Lm (fun x hx1 hx2=>hfr x (by omega) (by omega)) (K.Bm (K.Bm hIs.rt.1 hIs.st.le) I.le) hopr h1 h2 hOw
   have key2:bI P o a m.w fun v w'=>AA K g m r.σ1.ct Lr Lm r.res v w'/\∀bT,mY r.σ1 o.op=some bT->g.vv bT=some v:=by
    cases hmv:mY r.σ1 o.op with
    |none=>exact key.mono fun v w' hD=>⟨hD,fun _ h=>by cases h⟩
    |some bT=>
     obtain⟨t,hot,hgt⟩:=hst.mv bT hrun hmv
     have hta:t∈o.looksAt ops:=inop t (by rcases hot with e|e<;>rw[e]<;>simp[Op.operands])
     have hrn:(execOp a.eval o).run P m.w=.ok (.value (a.eval (.tmp t))) m.w:=by rcases hot with e|e<;>simp[execOp,e]
     have hD:=E.bI.exact key hrn
     unfold bI
     rw[hrn]
     exact⟨hD,fun _ h=>by cases h;exact(slot1 t bT _ hta hgt).1⟩
   refine key2.wp fun v w' ⟨hD,hmv⟩=>?_
   obtain⟨m',g',La,rfl,hS,hge,hvv,hoo,hbk,hA,hv⟩:=hD
   have hlA:=B7 hA
   have uB:=hO.uB
   have hmvr:r.mv o=mY r.σ1 o.op:=by unfold Rec.mv;rw[hrun]
   have ge1:GE g' (g.la g' r.σ1.ct (r.mv o) v r.res.add La):=⟨fun _ _ h=>h,fun x y hx=>by
    rw[hvv]at hx;show(if _ then _ else _)=_;rw[if_neg fun⟨e,_⟩=>by subst e;rw[(hfr _ (by omega) (by omega)).2.1]at hx;cases hx];exact hx,fun x y hx=>by
    rw[hoo]at hx;show(if _ then _ else _)=_;by_cases hx1:r.σ1.ct+32<=x
    . rw[if_pos hx1];have:r.σ1.ct+64<=x:=Nat.le_of_not_lt fun h=>by rw[(hfr x (by omega) (by omega)).2.2]at hx;cases hx
      rw[List.getElem?_eq_none (by omega)];exact hx
    . rw[if_neg hx1];exact hx⟩
   have ge2:=hge.trans ge1
   have hle:=hS.le
   refine hKK _ m' _ (ve (r.σ.ct+32) r.res.add++dH r.res.rm cur) (La++Lz) (next v m' (g.la g' r.σ1.ct (r.mv o) v r.res.add La) _ _ ge2 hle (qV (Gd (hA.mono ge1 (Le.refl _)) fun x b e hx he=>?_) (h3.mono ge2 hle)) ?_ rfl (fun d hd=>?_) (fun u hu=>?_) fun x hx=>⟨?_,?_,?_⟩)
   . rw[<- c1]
     show(if r.σ1.ct+32<=r.σ1.ct+32+x then _ else _)=_
     rw[if_pos (by omega),show r.σ1.ct+32+x-(r.σ1.ct+32)=x by omega,hx,he]
   . exact Um I.st p1 p2 hS
   . have hvd:r.bT o=(r.mv o).getD r.σ1.ct:=by unfold Rec.bT;rw[c1]
     rw[hvd]
     cases hq:r.mv o with
     |none=>
      show(if r.σ1.ct=r.σ1.ct/\(none:Option Nat)=none then some v else g.vv _)=_
      rw[if_pos ⟨rfl,rfl⟩]
     |some bT=>
      rw[hq]at ge2
      exact ge2.vv bT v (hmv bT (by rw[<- hmvr,hq]))
   . have hu':(if σs.ct+64*i=r.σ1.ct/\r.mv o=none then some v else g.vv (σs.ct+64*i))=some u:=hu
     by_cases hq:r.mv o=none
     . rw[if_pos ⟨hct1.symm,hq⟩]at hu'
       cases hu'
       exact hv.mono ge1 (Le.refl _)
     . rw[if_neg fun⟨_,e⟩=>hq e,(hfr _ (Nat.le_refl _) (by omega)).2.1]at hu'
       cases hu'
   . show g'.bk x=g.bk x
     refine bm fun hn=>?_
     have:=hbk x hn
     omega
   . show(if x=r.σ1.ct/\r.mv o=none then some v else g.vv x)=_
     rw[if_neg (by omega)]
   . show(if r.σ1.ct+32<=x then(match r.res.add[x-(r.σ1.ct+32)]?,La[x-(r.σ1.ct+32)]? with|some a,some e=>some (a.2,e)|_,_=>g.oo x)else g.oo x)=_
     by_cases hx1:r.σ1.ct+32<=x
     . rw[if_pos hx1,List.getElem?_eq_none (by omega)]
     . rw[if_neg hx1]
 have go:∀(fuel:Nat) (l:Array Bool) (a:Act) (m:Mem) (g:GG S) cur L,D.left ops l<=fuel->DI K n ds B m0 ops tr σs σN gs aS ms l a m g cur L->wpAnyIn (FW rr) 0 P .any ops Q fuel l a m.w:=by
  intro fuel
  induction fuel with
  |zero=>
   intro l a m g cur L hf I
   have hr:Region.ready .any ops l=[]:=by
    refine bm fun hne=>?_
    obtain⟨i,hi⟩:=List.exists_mem_of_ne_nil _ hne;obtain⟨h0,o,ho,_⟩:=Go.mem_ready.1 hi;have hlt:i<ops.size:=(Array.getElem?_eq_some_iff.1 ho).1;have:=D.xI (ops:=ops) I.Dp hlt ((D.rH (by have:=I.Dp;omega)).1 h0);omega
   exact⟨hr,fin l a m g cur L I hr⟩
  |succ fuel ih=>
   intro l a m g cur L hf I
   refine⟨fin l a m g cur L I,fun i hi=>step l a m g cur L I i hi _ fun a' m' g' cur' L' I'=>ih _ a' m' g' cur' L' ?_ I'⟩
   obtain⟨h0,o,ho,_⟩:=Go.mem_ready.1 hi
   have hlt:i<ops.size:=(Array.getElem?_eq_some_iff.1 ho).1
   have:=D.xI (ops:=ops) I.Dp hlt ((D.rH (by have:=I.Dp;omega)).1 h0)
   omega
 refine wpIn_region_any hm ?_;have hle:Le ms (ms.up ms.w.drew):=Le.up ms (Below.refl _ _).drew;have nol:∀i,¬ D.l8 (Array.replicate ops.size false) i:=D.pY ops.size;refine go ops.size (Array.replicate ops.size false) aS (ms.up ms.w.drew) gs σs.ob Ls ?_ ⟨by simp,hIs.size,hIs.defers,fun _ _=>rfl,fun i _ _ _ _ _ h=>absurd h (nol i),fun i _ _ _ h=>absurd h (nol i),fun i hi _ x h1 h2=>hIs.fresh x (by omega),fun x h1=>hIs.fresh x (by omega),fun j _ _ h=>absurd h (nol j),GE.refl gs,hle,hIs.ob.mono (GE.refl gs) hle,hIs.st.drew,fun q=>⟨0,Nat.zero_le _,by rw[hst0],fun j _ h=>by omega,fun j _ _ _ h=>absurd h (nol j)⟩⟩;unfold D.left;exact Nat.le_trans List.countP_le_length (by simp)
end
def ZK(P:Program)(r:Nat):Option RG:=(P.funcs[r/1000]?).bind fun fn=>fn.body.bind fun c=>((dI c).find? fun q=>Nat.beq (tM q.2.1) (r % 1000)).map fun q=>⟨q.1.toList,q.2.1,q.2.2,fn.ntmps⟩
def rgA(P:Program)(r:Nat):Code:=match ZK P r with|some x=>x.fC|none=>.skip
def rgB(P:Program)(r:Nat):Code:=match ZK P r with|some x=>x.body|none=>.skip
theorem Fm{α:Type}{k:α->Nat}:∀{l:List α} {x:α},gD (l.map k)=true->x∈l->l.find? (fun y=>Nat.beq (k y) (k x))=some x
 |[],x,_,h=>by cases h
 |y::l,x,hn,h=>by
  have hn':=List.nodup_cons.1 (iR hn);rcases aB.1 h with rfl|h
  . simp
  . have hne:k y≠k x:=fun e=>hn'.1 (by rw[e];exact List.mem_map_of_mem h)
    rw[List.find?_cons,mT hne];unfold gD at hn;simp only[aF]at hn;split at hn
    . cases hn
    . exact Fm hn h
theorem ZJ{f:Nat}{fn:Func}{c:Code}(hK:∀r,K.rg r=ZK P r)(hf:P.funcs[f]?=some fn)(hb:fn.body=some c)(hn:(gD ((dI c).map fun q=>tM q.2.1)&&(dI c).all fun q=>Nat.ble (tM q.2.1+1) 1000)=true):Yg K f fn.ntmps c:=fun r hr=>by
 simp only[al]at hn;have h1:=aj (aE.1 hn.2 r hr);rw[hK];unfold ZK;rw[show(f*1000+tM r.2.1)/1000=f by omega,show(f*1000+tM r.2.1) % 1000=tM r.2.1 by omega,hf];simp only[ae,hb];rw[Fm (k:=fun q:Array Nat×Code×Code=>tM q.2.1) hn.1 hr];rfl
theorem Su(hT:dx P K tt)(hm:P.follows .mixedOrders=true)(hΦ:∀c∈Φ,Sound P K c){c:dS S}{fn:Func}{body:Code}{rs:List ResultVar}{an:An}(hf:P.funcs[c.f]?=some fn)(hb:fn.body=some body)(hrs:fn.results=rs.toArray)(hnm:(fn.name == "runtime.NumGoroutine")=false)(hcf:(Nat.ble c.f 999999&&Nat.beq fa.fn c.f&&gD ((dI body).map fun q=>tM q.2.1)&&(dI body).all fun q=>Nat.ble (tM q.2.1+1) 1000)=true)(hK:∀r,K.rg r=ZK P r)
 (hok:codeOk fn.ntmps body=true) (hsz:(Nat.ble c.ins.length 190&&Nat.ble c.ins.length fn.ntmps)=true) (hev:∀x,evF tb tt Φ fa c rs body an x=c.uU x) (hΨ:∀c∈fa.nd,mS P K c:=by intro c hc;cases hc):Sound P K c:=by
 simp only[al]at hcf
 obtain⟨⟨⟨h1,h2⟩,h3⟩,h4⟩:=hcf
 have h2:=ah h2
 exact P3 hT hΦ hΨ (fun n B m0 rb ds=>NJ hT hΦ hm) hf hb hrs (enters_of hf hnm (by rw[hb];rfl)) (aj h1) hok (h2▸ZJ hK hf hb (by simp only[al];exact⟨h3,h4⟩)) hsz hev
theorem XA(hT:dx P K tt)(hm:P.follows .mixedOrders=true)(hΦ:∀c∈Φ,Sound P K c){c:dS S}{r n:Nat}{ps:List Nat}{fC body:Code}{an:An}(hcf:c.f=Z4 r)(hrd:fa.rd=true)(hrg:K.rg r=some ⟨ps,fC,body,n⟩)
 (hps:(ps.all fun p=>Nat.ble (p+1) n)=true) (hoa:codeOk n fC=true) (hob:codeOk n body=true) (hra:dI fC=[]) (hrb:dI body=[]) (hsz:Nat.ble c.ins.length 190=true) (hev:∀x,evY tb tt Φ fa c r ps fC body an x=c.uU x) (hΨ:∀c∈fa.nd,mS P K c:=by intro c hc;cases hc):Sound P K c:=
 P5 hT hΦ hΨ (fun n B m0 rb rr ds=>NJ hT hΦ hm) hcf hrd hrg hps hoa hob hra hrb hsz hev
theorem P9{c:dS S}{F:(HT S c.ls->Option (jo S c.outs))->HT S c.ls->Option (jo S c.outs)}(h:∀g,Sound P K {c with uU:=g}->Sound P K {c with uU:=F g}):Sound P K {c with uU:=Fix F}:=by
 have key:∀k,Sound P K {c with uU:=Fix.it F k}:=fun k=>by
  induction k with
  |zero=>exact⟨fun x y bk m vals L hs=>by cases hs⟩
  |succ k ih=>exact h _ ih
 refine⟨fun x y bk m vals L hs=>?_⟩;obtain⟨k,hk⟩:=Rl hs;exact(key k).go x y bk m vals L hk
end E
end
section
open Go.RowKit G
namespace E
variable {S:Nat->Type}
def vy:Co->Nat
 |.sl c=>vy c
 |.st j=>j+1
 |_=>0
theorem IB{R R':(i:Nat)->Mem->S i->List Value->Prop}{sz:Nat->Nat}{n:Nat}(h:∀j,j<n->R j=R' j):∀{c:Co},vy c<=n->RC R sz c=RC R' sz c
 |.int _,_| .u8,_| .bo,_| .str,_| .a8 _,_| .ai _ _,_| .mp _ _,_=>rfl
 |.sl c,hc=>by
  have:=IB (sz:=sz) h (c:=c) hc;show LQ (RC R sz c) (B0 sz c)=LQ (RC R' sz c) (B0 sz c);rw[this]
 |.st j,hc=>h j hc
theorem zo{R R':(i:Nat)->Mem->S i->List Value->Prop}{sz:Nat->Nat}{n:Nat}(h:∀j,j<n->R j=R' j){m:Mem}:∀{cs:List Co} {x:HL S cs} {vs:List Value},(∀c∈cs,vy c<=n)->(Jl R sz m cs x vs↔Jl R' sz m cs x vs)
 |[],_,_,_=>Iff.rfl
 |c::cs,x,vs,hc=>by
  simp only[Jl,IB h (hc c aq)];exact exists_congr fun v1=>exists_congr fun v2=>and_congr_right fun _=>and_congr_right fun _=>zo h fun d hd=>hc d (au _ hd)
theorem OC{R:(i:Nat)->Mem->S i->List Value->Prop}{sz:Nat->Nat}{n:Nat}(h:∀j,j<n->oY (R j) (sz j)):∀{c:Co},vy c<=n->oY (RC R sz c) (B0 sz c)
 |.int k,_=>OB k
 |.u8,_=>Mq
 |.bo,_=>TJ
 |.str,_=>OD
 |.sl c,hc=>Mp (OC h hc)
 |.st j,hc=>h j hc
 |.a8 n,_=>⟨fun h _=>h,fun h=>by rw[h.1];simp[B0];have:=h.2;omega,fun h u hu=>by rw[h.1]at hu;simp at hu;obtain⟨i,_,rfl⟩:=hu;rfl,by simp[B0];omega⟩
 |.ai n k,_=>⟨fun h _=>h,fun h=>by rw[h.1];simp[B0];have:=h.2;omega,fun h u hu=>by rw[h.1]at hu;simp at hu;obtain⟨i,_,rfl⟩:=hu;rfl,by simp[B0];omega⟩
 |.mp _ _,_=>⟨fun h _=>h.elim,fun h=>h.elim,fun h=>h.elim,by simp[B0]⟩
def szL(sz:Nat->Nat)(cs:List Co):Nat:=(cs.map (B0 sz)).sum
theorem Jm{R:(i:Nat)->Mem->S i->List Value->Prop}{sz:Nat->Nat}:∀{cs:List Co} {m m':Mem} {x:HL S cs} {vs:List Value},(∀c∈cs,oY (RC R sz c) (B0 sz c))->Jl R sz m cs x vs->Le m m'->Jl R sz m' cs x vs
 |[],_,_,_,_,_,h,_=>h
 |c::cs,m,m',x,vs,hR,⟨v1,v2,e,h1,h2⟩,hm=>⟨v1,v2,e,(hR c aq).mono h1 hm,Jm (fun d hd=>hR d (au _ hd)) h2 hm⟩
theorem Jn{R:(i:Nat)->Mem->S i->List Value->Prop}{sz:Nat->Nat}:∀{cs:List Co} {m:Mem} {x:HL S cs} {vs:List Value},(∀c∈cs,oY (RC R sz c) (B0 sz c))->Jl R sz m cs x vs->vs.length=szL sz cs
 |[],_,_,_,_,h=>by simp only[Jl]at h;subst h;rfl
 |c::cs,m,x,vs,hR,⟨v1,v2,e,h1,h2⟩=>by
  rw[e,ay,(hR c aq).size h1,Jn (fun d hd=>hR d (au _ hd)) h2];simp[szL]
theorem N2{R:(i:Nat)->Mem->S i->List Value->Prop}{sz:Nat->Nat}:∀{cs:List Co} {m:Mem} {x:HL S cs} {vs:List Value},(∀c∈cs,oY (RC R sz c) (B0 sz c))->Jl R sz m cs x vs->∀u∈vs,u.oneCell'=true
 |[],_,_,_,_,h=>by simp only[Jl]at h;subst h;intro u hu;cases hu
 |c::cs,m,x,vs,hR,⟨v1,v2,e,h1,h2⟩=>fun u hu=>by
  subst e;rcases bj.1 hu with hu|hu
  . exact(hR c aq).one h1 u hu
  . exact N2 (fun d hd=>hR d (au _ hd)) h2 u hu
section
variable (tb:Tb S)
def Uw(i:Nat):Nat:=((tb i).fs.map (B0 fun _=>1)).sum
def Rk:Nat->(i:Nat)->Mem->S i->List Value->Prop
 |0=>fun _ _ _ _=>False
 |k+1=>fun i m x cs=>Jl (Rk k) (Uw tb) m (tb i).fs ((tb i).to x) cs
def RS(i:Nat):Mem->S i->List Value->Prop:=Rk tb (i+1) i
variable {tb}
theorem Ux(h:∀i,(tb i).fs.all Hf=true)(i:Nat):Uw tb i=szL (Uw tb) (tb i).fs:=by
 unfold Uw szL;congr 1;refine List.map_congr_left fun c hc=>?_
 have:=aE.1 (h i) c hc;cases c<;>first|rfl|(cases this)
theorem aag(hm:∀i,∀c∈(tb i).fs,vy c<=i):∀(j k:Nat),j<k->Rk tb k j=RS tb j:=fun j=>by
 induction j using Nat.strongRecOn with
 |_ j ih=>
  intro k hk
  cases k with
  |zero=>omega
  |succ k=>
   funext m x cs
   refine propext ?_
   show Jl (Rk tb k) _ _ _ _ _↔Jl (Rk tb j) _ _ _ _ _
   refine zo (n:=j) (fun i hi=>?_) (hm j)
   rw[ih i hi k (by omega),ih i hi j hi]
theorem Cc(hm:∀i,∀c∈(tb i).fs,vy c<=i)(i:Nat)(m:Mem)(x:S i)(cs:List Value):RS tb i m x cs↔Jl (RS tb) (Uw tb) m (tb i).fs ((tb i).to x) cs:=
 zo (n:=i) (fun j hj=>aag hm j i hj) (hm i)
theorem Yf(hf:∀i,(tb i).fs.all Hf=true)(hm:∀i,∀c∈(tb i).fs,vy c<=i)(hp:∀i,(tb i).fs≠[])(i:Nat):oY (RS tb i) (Uw tb i):=by
 induction i using Nat.strongRecOn with
 |_ i ih=>
  have hR:∀c∈(tb i).fs,oY (RC (RS tb) (Uw tb) c) (B0 (Uw tb) c):=fun c hc=>OC ih (hm i c hc)
  refine⟨fun h hle=>(Cc hm i _ _ _).2 (Jm hR ((Cc hm i _ _ _).1 h) hle),fun h=>?_,fun h=>N2 hR ((Cc hm i _ _ _).1 h),?_⟩
  . rw[Ux hf];exact Jn hR ((Cc hm i _ _ _).1 h)
  . rw[Ux hf]
    cases hc:(tb i).fs with
    |nil=>exact absurd hc (hp i)
    |cons c cs=>
     have:=(hR c (by rw[hc];exact aq)).pos
     simp only[szL,aF,List.sum_cons]
     omega
def GB(b:Nat)(m:Mem):Prop:=m.ok b 0/\∃v:Int,m.w.cell? ⟨b,0,none⟩=some (.int .i64 v)
theorem GB.mono{b:Nat}{m m':Mem}(h:GB b m)(k:Le m m'):GB b m':=by
 obtain⟨h1,v,h2⟩:=h;obtain⟨k1,k2⟩:=k.same b 0 h1;exact⟨k1,v,k2.trans h2⟩
def acy(rg:Nat->Option RG)(B:Mem->Prop)(Bm:∀{m m':Mem},B m->Le m m'->B m')(hf:∀i,(tb i).fs.all Hf=true)(hm:∀i,∀c∈(tb i).fs,vy c<=i)(hp:∀i,(tb i).fs≠[])(ho:∀i h,(tb i).to ((tb i).of h)=h):ep tb:=
 {R:=RS tb,sz:=Uw tb,rep:=Yf hf hm hp,spec:=Cc hm,X5:=ho,flat:=hf,rg:=rg,B:=B,Bm:=Bm}
end
def ab7(tb:Tb S)(l:List (Nat×TI S)):Bool:=l.all fun p=>match p.2.d,p.2.co with
 |.slice e,.sl c=>(match look e l with|some ei=>Nat.beq ei.size (B0 (Uw tb) c)&&Nat.ble 1 ei.bytes|none=>false)
 |_,_=>true
def acg(l:List (Nat×TI S)):Bool:=l.all fun p=>match p.2.d,p.2.co with
 |.map kt _,.mp (.int k) _=>(match look kt l with|some ki=>(match ki.d with| .int k'=>decide (k'=k)|_=>false)|none=>false)
 |.map kt _,.mp .str _=>(match look kt l with|some ki=>(match ki.d with| .str=>true|_=>false)|none=>false)
 |_,_=>true
def Ul(l:List (Nat×TI S)):List (Nat×Nat):=l.filterMap fun p=>match p.2.d,p.2.co with
 |.map kt _,.mp (.st i) _=>some (kt,i)
 |_,_=>none
section
variable {tb:Tb S}{K:ep tb}{P:Program}
theorem Wm(k:IntKind)(x y:Int):vx x y=true↔Value.int k x=Value.int k y:=by simp[vx]
theorem QR(x y:List UInt8):Ut x y=true↔x=y:=by simp[Ut]
theorem Wr{kt:TypeId}{k:IntKind}(hu:P.underlying kt=some (.int k)):fS P kt (fun x v=>∃m,dv K (.int k) m x v) (iX tb (.int k)):=by
 have key:∀{x:Int} {v:Value},(∃m,dv K (.int k) m x v)->v=.int k x:=fun{x v} ⟨m,h⟩=>by
  have h:[v]=[.int k x]:=h;simpa using h
 refine Oe hu (fun x v h=>by rw[key h];exact rfl) fun x y v w h1 h2=>?_
 rw[key h1,key h2];exact Wm k x y
theorem str_inj{x y:List UInt8}(h:Proofs.YtjfkdglgecgjfaaGreat.str x=Proofs.YtjfkdglgecgjfaaGreat.str y):x=y:=by
 have:=Xp x y;unfold Proofs.YtjfkdglgecgjfaaGreat.str at h;by_cases e:x=y
 . exact e
 . rw[decide_eq_false e]at this;have h2:((⟨x.toArray⟩:ByteArray).toList == (⟨y.toArray⟩:ByteArray).toList)=true:=by simp_all
   rw[h2]at this;cases this
theorem Ws{kt:TypeId}(hu:P.underlying kt=some .string):fS P kt (fun x v=>∃m,dv K .str m x v) (iX tb .str):=by
 have key:∀{x:List UInt8} {v:Value},(∃m,dv K .str m x v)->v=.string (Proofs.YtjfkdglgecgjfaaGreat.str x):=fun{x v} ⟨m,h⟩=>by
  have h:[v]=[.string (Proofs.YtjfkdglgecgjfaaGreat.str x)]:=h;simpa using h
 refine Oe hu (fun x v h=>by rw[key h];exact trivial) fun x y v w h1 h2=>?_
 rw[key h1,key h2];exact(QR x y).trans ⟨fun h=>by rw[h],fun h=>str_inj (by simpa using h)⟩
end
theorem acB{tb:Tb S}{K:ep tb}{P:Program}{l:List (Nat×TI S)}(hK:K.sz=Uw tb)(h1:∀p∈l,ED P p.1 p.2)(h2:ab7 tb l=true)(h3:∀p∈(l.filter fun p=>p.2.eq).map fun p=>(p.1,p.2.zero),Ri K P p.1 p.2)
 (h4:acg l=true) (h5:∀p∈Ul l,Dg tb (.st p.2)=true->fS P p.1 (fun x v=>∃m,dv K (.st p.2) m x v) (iX tb (.st p.2))):dx P K (fun t=>look t l):=by
 refine⟨fun t i h he=>h3 (t,i.zero) (List.mem_map.2 ⟨(t,i),bu.2 ⟨gl h,he⟩,rfl⟩),fun t i h=>h1 _ (gl h),fun t i e c h hd hc=>?_,fun t i kt et kc vc h hd hc hk=>?_⟩
 . have:=aE.1 h2 _ (gl h)
   simp only[hd,hc]at this
   split at this
   . rename_i ei hei
     simp only[al]at this
     exact⟨ei,hei,by rw[ah this.1,zK,hK],aj this.2⟩
   . cases this
 . have hm:=aE.1 h4 _ (gl h)
   simp only[hd,hc]at hm
   cases kc with
   |int k=>
    simp only at hm
    split at hm
    . rename_i ki hki
      split at hm
      . rename_i k' hd'
        have htd:=(h1 _ (gl hki)).td
        simp only[hd']at htd
        rw[aZ hm]at htd
        exact Wr htd
      . cases hm
    . cases hm
   |str=>
    simp only at hm
    split at hm
    . rename_i ki hki
      split at hm
      . rename_i hd'
        have htd:=(h1 _ (gl hki)).td
        simp only[hd']at htd
        exact Ws htd
      . cases hm
    . cases hm
   |st i'=>exact h5 (kt,i') (List.mem_filterMap.2 ⟨(t,i),gl h,by simp only[hd,hc]⟩) hk
   |u8=>cases hk
   |bo=>cases hk
   |sl c=>cases hk
   |a8 n=>cases hk
   |ai n k=>cases hk
   |mp a b=>cases hk
theorem bJ{α:Type _}{p:α->Prop}:∀x∈([]:List α),p x:=fun _ h=>nomatch h
theorem cH{α:Type _}{p:α->Prop}{a:α}{l:List α}(h:p a)(t:∀x∈l,p x):∀x∈a::l,p x:=fun x hx=>by
 rcases aB.1 hx with rfl|hx
 . exact h
 . exact t x hx
section
variable {k:IntKind}{z0:Int}{u0:UInt8}{b0:Bool}{z vs:List (CV S)}{tb:Tb S}{K:ep tb}{g:GG S}{m:Mem}
theorem fk(h:kindOk ([]:List (CV S)) vs=true):vs=[]:=by
 cases vs with
 |nil=>rfl
 |cons=>simp[kindOk]at h
theorem cj(h:kindOk (.int k z0::z) vs=true):∃x v',vs=.int k x::v'/\kindOk z v'=true:=by
 cases vs with
 |nil=>simp[kindOk]at h
 |cons v vs=>
  cases v<;>simp only[kindOk,aH]at h
  simp only[al,aJ]at h
  obtain⟨rfl,h⟩:=h
  exact⟨_,_,rfl,h⟩
theorem BS(h:kindOk (.u8 u0::z) vs=true):∃x v',vs=.u8 x::v'/\kindOk z v'=true:=by
 cases vs with
 |nil=>simp[kindOk]at h
 |cons v vs=>
  cases v<;>simp only[kindOk,aH]at h
  exact⟨_,_,rfl,h⟩
theorem BR(h:kindOk (.tt b0::z) vs=true):(∃b p d hb v',vs=.bo b p d hb::v'/\kindOk z v'=true)\/∃b v',vs=.tt b::v'/\kindOk z v'=true:=by
 cases vs with
 |nil=>simp[kindOk]at h
 |cons v vs=>
  cases v<;>simp only[kindOk,aH]at h
  . exact .inl ⟨_,_,_,_,_,rfl,h⟩
  . exact .inr ⟨_,_,rfl,h⟩
theorem cE{x:Int}{xs:List Value}(h:cJ K g m (.int k x::vs) xs):∃ys,xs=.int k x::ys/\cJ K g m vs ys:=by
 obtain⟨c1,c2,rfl,h1,h2⟩:=h;simp only[bM]at h1;subst h1;exact⟨c2,rfl,h2⟩
theorem GF{x:UInt8}{xs:List Value}(h:cJ K g m (.u8 x::vs) xs):∃ys,xs=.int .u8 (x.toNat:Int)::ys/\cJ K g m vs ys:=by
 obtain⟨c1,c2,rfl,h1,h2⟩:=h;simp only[bM]at h1;subst h1;exact⟨c2,rfl,h2⟩
theorem Gz{b:Bool}{p:Prop}{d:Decidable p}{hb:b=true↔p}{xs:List Value}(h:cJ K g m (.bo b p d hb::vs) xs):∃ys,xs=.bool b::ys/\cJ K g m vs ys:=by
 obtain⟨c1,c2,rfl,h1,h2⟩:=h;simp only[bM]at h1;subst h1;exact⟨c2,rfl,h2⟩
theorem GD{b:Bool}{xs:List Value}(h:cJ K g m (.tt b::vs) xs):∃ys,xs=.bool b::ys/\cJ K g m vs ys:=by
 obtain⟨c1,c2,rfl,h1,h2⟩:=h;simp only[bM]at h1;subst h1;exact⟨c2,rfl,h2⟩
end
section
variable {S:Nat->Type}{P:Program}{tb:Tb S}{K:ep tb}{tt:TypeId->Option (TI S)}{Φ:List (dS S)}{fa:FA S}
def bd(f:Func):Code:=match f.body with|some c=>c|none=>.skip
def ab4(fn:Func)(f k:Nat):Bool:=Nat.ble f 999999&&Nat.beq k f&&gD ((dI (bd fn)).map fun q=>tM q.2.1)&&(dI (bd fn)).all fun q=>Nat.ble (tM q.2.1+1) 1000
def acx(fn:Func)(a:Nat):Bool:=Nat.ble a 190&&Nat.ble a fn.ntmps
def facts(P:Program)(fn:Func)(f k a:Nat):Option Func×Option Code×Array ResultVar×Bool×Bool×Bool×Bool:=(P.funcs[f]?,fn.body,fn.results,(fn.name == "runtime.NumGoroutine"),ab4 fn f k,codeOk fn.ntmps (bd fn),acx fn a)
def UK(fn:Func)(rs:List ResultVar):Option Func×Option Code×Array ResultVar×Bool×Bool×Bool×Bool:=(some fn,some (bd fn),rs.toArray,false,true,true,true)
theorem acd(hT:dx P K tt)(hm:P.follows .mixedOrders=true)(hK:∀r,K.rg r=ZK P r){fn:Func}{rs:List ResultVar}{an:An}{c:dS S}(hΦ:∀c∈Φ,Sound P K c)(hev:∀x,evF tb tt Φ fa c rs (bd fn) an x=c.uU x)(h:facts P fn c.f fa.fn c.ins.length=UK fn rs)(hΨ:∀c∈fa.nd,mS P K c):Sound P K c:=by
 simp only[facts,UK,aA]at h;obtain⟨h1,h2,h3,h4,h5,h6,h7⟩:=h;exact Su hT hm hΦ h1 h2 h3 h4 h5 hK h6 h7 hev hΨ
def MQ(P:Program)(r n:Nat)(ps:List Nat)(f a:Nat):Nat×Bool×Bool×Bool×List (Array Nat×Code×Code)×List (Array Nat×Code×Code)×Bool:=(f,ps.all fun p=>Nat.ble (p+1) n,codeOk n (rgA P r),codeOk n (rgB P r),dI (rgA P r),dI (rgB P r),Nat.ble a 190)
def MR(r:Nat):Nat×Bool×Bool×Bool×List (Array Nat×Code×Code)×List (Array Nat×Code×Code)×Bool:=(Z4 r,true,true,true,[],[],true)
theorem y_q(hT:dx P K tt)(hm:P.follows .mixedOrders=true){r n:Nat}{ps:List Nat}{an:An}{c:dS S}(hΦ:∀c∈Φ,Sound P K c)(hev:∀x,evY tb tt Φ fa c r ps (rgA P r) (rgB P r) an x=c.uU x)(h:MQ P r n ps c.f c.ins.length=MR r)(hrd:fa.rd=true)(hrg:K.rg r=some ⟨ps,rgA P r,rgB P r,n⟩)(hΨ:∀c∈fa.nd,mS P K c):Sound P K c:=by
 simp only[MQ,MR,aA]at h;obtain⟨h1,h2,h3,h4,h5,h6,h7⟩:=h;exact XA hT hm hΦ h1 hrd hrg h2 h3 h4 h5 h6 h7 hev hΨ
end
end E
end
section
open Go.ChangeShapes Go.WideShapes Go.ChangeAt Go.RowKit G
theorem Hr:ownKnob Tryz.prog.godebug=none:=by kernel_rfl
theorem laidOut:laidOutB Tryz.prog=true:=by kernel_rfl
def Mem.all(W:World):Mem:=⟨W,fun _ _=>True⟩
theorem sN{W:World}{b o:Nat}{v:Value}(h:W.cell? ⟨b,o,none⟩=some v):(Mem.all W).ok b o:=by
 refine⟨trivial,?_⟩;unfold World.cell? at h;refine bm fun hn=>?_
 rw[show(W.heap[b]?:Option Obj)=none from Array.getElem?_eq_none (show W.heap.size<=b from Nat.le_of_not_lt hn)]at h;simp at h
def AE{H α:Type}(enc:TypeId×Value->H)(P:Program)(W:World)(base:Nat)(spare:Nat->Bool)(held:Bool)(R:Mem->α->List Value->Prop)(ok:α->Prop)(t:TypeId):Prop:=
 ∀fuel cs x,DataW.trod enc P W base spare held fuel t cs=some x->cs.length=P.cellsOf t/\∃y:α,R (Mem.all W) y cs/\ok y
section
variable {H:Type}{enc:TypeId×Value->H}{P:Program}{W:World}{base:Nat}{spare:Nat->Bool}{held:Bool}{t e:TypeId}
theorem D6{α:Type}{R:Mem->α->List Value->Prop}{ok:α->Prop}{sz:Nat}(ht:P.underlying t=some (.slice e))(hct:P.cellsOf t=1)(hc:P.cellsOf e=sz)(hs:0<sz)(hR:AE enc P W base spare held R ok e):
 AE enc P W base spare held (LQ R sz) (fun l=>l.length<=maxLen/\∀y∈l,ok y) t:=by
 intro fuel cs x h
 rcases DataW.trod_slice ht h with⟨rfl,_⟩|⟨ad,len,cap,elems,rest,n,_,rfl,_,_,hlc,hcm,hel,hat,_⟩
 . exact⟨by rw[hct];rfl,[],⟨none,0,rfl,dM.nil _ sz⟩,by simp,fun y hy=>by cases hy⟩
 . rw[hc]at hat
   have each:∀i,i<len->∃ecs:List Value,ecs.length=sz/\(∃y,R (Mem.all W) y ecs/\ok y)/\∀j v,ecs[j]?=some v->W.cell? ((ad.add (i*sz)).add j)=some v:=by
    intro i hi;have h1:=hat i hi
    cases hq:W.cells? base (ad.add (i*sz)) sz with
    |none=>rw[hq]at h1;simp[hel,hi]at h1
    |some ecs=>
     rw[hq]at h1
     simp only[ae]at h1
     obtain⟨hlen,hy⟩:=hR n ecs elems[i] (by rw[h1];simp[hel,hi])
     obtain⟨_,hl2,hcell⟩:=World.cells?_some hq
     exact⟨ecs,hl2,hy,fun j v hv=>by
      have hj:j<ecs.length:=(List.getElem?_eq_some_iff.1 hv).1;rw[hcell j (by omega)];exact hv⟩
   have hsp:0<len->ad.spot=none:=by
    intro h0;obtain⟨ecs,hl,_,hcell⟩:=each 0 h0;have h1:=hcell 0 (ecs[0]'(by omega)) (by simp);simp only[Nat.zero_mul,Addr.add,if_true]at h1;unfold World.cell? at h1;split at h1
    . split at h1
      . cases h1
      . rename_i hn;simpa using hn
    . cases h1
   have pick:∃(css:List (List Value)) (l:List α),css.length=len/\l.length=len/\(∀(i:Nat) (cs:List Value),css[i]?=some cs->cs.length=sz/\∀j v,cs[j]?=some v->W.cell? ((ad.add (i*sz)).add j)=some v)/\
    (∀(i:Nat) (x:α) (cs:List Value),l[i]?=some x->css[i]?=some cs->R (Mem.all W) x cs)/\∀y∈l,ok y:=by
    have:∀k,k<=len->∃(css:List (List Value)) (l:List α),css.length=k/\l.length=k/\(∀(i:Nat) (cs:List Value),css[i]?=some cs->cs.length=sz/\∀j v,cs[j]?=some v->W.cell? ((ad.add (i*sz)).add j)=some v)/\
     (∀(i:Nat) (x:α) (cs:List Value),l[i]?=some x->css[i]?=some cs->R (Mem.all W) x cs)/\∀y∈l,ok y:=by
     intro k
     induction k with
     |zero=>intro _;exact⟨[],[],rfl,rfl,fun i cs h=>by simp at h,fun i x cs h=>by simp at h,fun y hy=>by cases hy⟩
     |succ k ih=>
      intro hk
      obtain⟨css,l,h1,h2,h3,h4,h5⟩:=ih (by omega)
      obtain⟨ecs,e1,⟨y,hy,hoky⟩,e3⟩:=each k (by omega)
      refine⟨css++[ecs],l++[y],by simp[h1],by simp[h2],fun i cs hi=>?_,fun i x cs hx hi=>?_,fun z hz=>?_⟩
      . by_cases hik:i<k
        . rw[List.getElem?_append_left (by omega)]at hi;exact h3 i cs hi
        . rw[List.getElem?_append_right (by omega)]at hi
          have hi0:i-css.length=0:=by
           have:=(List.getElem?_eq_some_iff.1 hi).1;simp at this;omega
          rw[hi0]at hi;simp at hi;subst hi
          have:i=k:=by omega
          subst this;exact⟨e1,e3⟩
      . by_cases hik:i<k
        . rw[List.getElem?_append_left (by omega)]at hi hx;exact h4 i x cs hx hi
        . rw[List.getElem?_append_right (by omega)]at hi hx
          have hi0:i-css.length=0:=by
           have:=(List.getElem?_eq_some_iff.1 hi).1;simp at this;omega
          rw[hi0]at hi;rw[show i-l.length=0 by omega]at hx
          simp at hi hx;subst hi hx;exact hy
      . rcases bj.1 hz with h|h
        . exact h5 z h
        . simp at h;subst h;exact hoky
    exact this len (Nat.le_refl _)
   obtain⟨css,l,h1,h2,h3,h4,h5⟩:=pick
   have hflat:css.flatten.length=len*sz:=by
    have:∀(L:List (List Value)),(∀c∈L,c.length=sz)->L.flatten.length=L.length*sz:=by
     intro L
     induction L with
     |nil=>intro _;simp
     |cons c L ih=>intro h;rw[List.flatten_cons,ay,h c (aq ..),ih (fun c hc=>h c (au _ hc)),bw,aN];omega
    rw[this css (fun c hc=>by obtain⟨i,hi,rfl⟩:=List.mem_iff_getElem.1 hc;exact(h3 i _ (by simp[hi])).1),h1]
   subst h2
   refine⟨by rw[hct];rfl,l,⟨some ad,cap,rfl,css,⟨hflat,hlc,hcm,(fun e=>by cases e),fun j v hv=>?_⟩,by omega,fun i x cs hx hi=>⟨(h3 i cs hi).1,h4 i x cs hx hi⟩⟩,Nat.le_trans hlc hcm,h5⟩
   have hj:j<css.flatten.length:=(List.getElem?_eq_some_iff.1 hv).1
   have hlen0:0<l.length:=by
    rcases Nat.eq_zero_or_pos l.length with h0|h0
    . rw[hflat,h0]at hj;omega
    . exact h0
   have hi:j/sz<l.length:=Nat.div_lt_of_lt_mul (by rw[Nat.mul_comm];omega)
   have hci:css[j/sz]?=some (css[j/sz]'(by omega)):=by simp
   obtain⟨k1,k2⟩:=h3 (j/sz) _ hci
   have hmod:j % sz<sz:=Nat.mod_lt _ hs
   have hv2:(css[j/sz]'(by omega))[j % sz]?=some ((css[j/sz]'(by omega))[j % sz]'(by omega)):=by simp
   have hfg:=ig sz css (fun i cs hc=>(h3 i cs hc).1) (j/sz) (j % sz) _ _ hci hv2
   have hjj:j/sz*sz+j % sz=j:=by rw[Nat.mul_comm];exact Nat.div_add_mod j sz
   rw[hjj,hv]at hfg
   simp only[af]at hfg
   have hcl:=k2 _ _ hv2
   rw[<- hfg]at hcl
   obtain⟨bl,of,sp⟩:=ad
   have hspn:sp=none:=hsp hlen0
   subst hspn
   rw[Addr.add_mid,Addr.add_mid,Nat.add_assoc,hjj]at hcl
   exact⟨bl,of,rfl,sN hcl,hcl⟩
theorem nM{k:IntKind}(ht:P.underlying t=some (.int k))(hc:P.cellsOf t=1):AE enc P W base spare held (isNum k) (fun x=>(Lit.int k x).wf=true) t:=by
 intro fuel cs x h;obtain⟨n,rfl,_,hw⟩:=DataW.trod_int ht h;exact⟨by rw[hc];rfl,n,rfl,hw⟩
theorem QW{x:Int}(h:(Lit.int .i64 x).wf=true): -9223372036854775808<=x/\x<=9223372036854775807:=by
 simpa[Lit.wf,IntKind.min,IntKind.max,IntKind.signed,IntKind.bits]using h
theorem yu(ht:P.underlying t=some (.int .u8))(hc:P.cellsOf t=1):AE enc P W base spare held rI (fun _=>True) t:=by
 intro fuel cs x h;obtain⟨z,rfl,_,hw⟩:=DataW.trod_int ht h;have hx:0<=z/\z<=255:=by simpa[Lit.wf,IntKind.min,IntKind.max,IntKind.signed,IntKind.bits]using hw
 have e:((UInt8.ofNat z.toNat).toNat:Int)=z:=by rw[UInt8.toNat_ofNat'];omega
 exact⟨by rw[hc];rfl,UInt8.ofNat z.toNat,by unfold rI U8;rw[e],trivial⟩
def XP(n:Nat)(_:Mem)(f:Nat->UInt8)(cs:List Value):Prop:=cs=(List.range n).map fun i=>.int .u8 ((f i).toNat:Int)
theorem PH{n:Nat}(ht:P.underlying t=some (.array n e))(he:P.underlying e=some (.int .u8))(hce:P.cellsOf e=1)(hc:P.cellsOf t=n):AE enc P W base spare held (XP n) (fun _=>True) t:=by
 intro fuel cs x h;obtain⟨xs,m,_,_,hl,hxl,hf⟩:=DataW.trod_array ht h;rw[hc]at hl;have each:∀i,i<n->∃c:UInt8,cs[i]?=some (.int .u8 (c.toNat:Int)):=by
  intro i hi;have h1:=hf i hi;rw[hce,Nat.mul_one]at h1;obtain⟨_,c,hc',_⟩:=yu (enc:=enc) (W:=W) (base:=base) (spare:=spare) (held:=held) he hce m _ (xs[i]'(by omega)) (by rw[h1];simp);unfold rI at hc';have:((cs.drop i).take 1)[0]?=some (U8 c):=by rw[hc'];rfl
  rw[List.getElem?_take,if_pos (by omega),List.getElem?_drop,Nat.add_zero]at this;exact⟨c,this⟩
 refine⟨by rw[hc];exact hl,fun i=>if h:i<n then Classical.choose (each i h)else 0,?_,trivial⟩;unfold XP;apply List.ext_getElem?;intro i;by_cases hi:i<n
 . rw[Classical.choose_spec (each i hi)];simp[hi]
 . rw[List.getElem?_eq_none (by omega),List.getElem?_eq_none (by simp;omega)]
end
theorem j0{α:Type}(cs:List α)(o z o':Nat)(h:o'=o+z):cs.drop o=(cs.drop o).take z++cs.drop o':=by
 subst h;rw[<- List.drop_drop];exact(List.take_append_drop z _).symm
theorem NB{α:Type}(cs:List α)(o:Nat)(h:cs.length=o):cs.drop o=[]:=List.drop_of_length_le (by omega)
theorem Qf{P:Program}{f:FuncId}{args:Array Value}{W:World}(h:Spec P f args (Mem.all W) [] fun v _ L=>L=[]/\v=.bool true):Calls P f args W fun e W'=>e=.returned (.bool true)/\Below W.heap.size W W':=
 Calls.mono h fun e w' ⟨v,m',L',h1,h2,h3,_,h5⟩=>by subst h2 h5;exact⟨h1,h3.below⟩
end
section
open Go.ChangeShapes Go.WideShapes Go.ChangeAt Go.RowKit G
namespace E
section
variable {S:Nat->Type}{tb:Tb S}{K:ep tb}{H:Type}{enc:TypeId×Value->H}{P:Program}{W:World}{base:Nat}{spare:Nat->Bool}{held:Bool}{t e:TypeId}
theorem Cl{n:Nat}(ht:P.underlying t=some (.array n e))(he:P.underlying e=some (.int .u8))(hce:P.cellsOf e=1)(hc:P.cellsOf t=n)(hn:0<n):AE enc P W base spare held (RK K (.a8 n)) (fun _=>True) t:=by
 intro fuel cs x h;obtain⟨h1,y,h2,h3⟩:=PH ht he hce hc fuel cs x h;exact⟨h1,y,⟨h2,hn⟩,trivial⟩
theorem Ni{c:Co}{x:T S c}{v:Value}{m:Mem}{g:GG S}(hn:Hf c=true)(h:RK K c m x [v]):bP K g m (.one (toCV c x)) v:=by
 simp only[bP];exact toCV_ok hn h
theorem Vx{c:Co}{x:T S c}{cs:Array Value}{m:Mem}{g:GG S}(h:RK K c m x cs.toList):bP K g m (.agg (Q7 tb c x)) (.agg cs):=by
 simp only[bP];exact⟨cs.toList,by simp,Am h⟩
theorem SW{f:FuncId}{ins:List PS}{ls:List Co}{X1 uB}{uU:HT S ls->Option (jo S [({out:=.one (.eX .bo),vm:=[.bo]}:Out)])}{vals:List Value}
 (hB:K.B (Mem.all W)) (hs:Sound P K ({f:=f,ins:=ins,ls:=ls,outs:=[{out:=.one (.eX .bo),vm:=[.bo]}],X1:=X1,uB:=uB,uU:=uU}:dS S)) (hf:Nat.ble f 999999=true) (x:HT S ls) (hx:uU x=(some true:Option Bool))
 (A:List (AV S)) (hA:PS.eS tb id ins (qB ls x)=some (A,[])) (hv:db K (Q3 fun _=>none) (Mem.all W) A vals):
 Spec P f vals.toArray (Mem.all W) [] fun v _ L=>L=[]/\v=.bool true:=by
 have h:=hs.go x (true:Bool) (fun _=>none) (Mem.all W) vals [] hx (fun _ _=>rfl) (fun ds args ds1 fm ds2 h1 h2 h3=>by
  have e1:some (qB ls x)=some ds:=h1;cases e1;have e2:some (A,([]:List (ic S)))=some (args,ds1):=hA.symm.trans h2;cases e2;have e3:some (([]:List (AO S)),([]:List (ic S)))=some (fm,ds2):=h3;cases e3;exact⟨hv,rfl⟩) rfl (Ow.nil _) hB
 unfold sy at h
 rw[if_pos (aj hf)]at h
 refine Calls.mono h.2 fun e w' ⟨v,m',L',h1,h2,h3,h4⟩=>⟨v,m',L',h1,h2,h3,?_⟩
 obtain⟨Iu,Ln,k1,_,_,k2⟩:=h4
 obtain⟨k3,k4⟩:=k2 (Q3 Iu) id [⟨.bo,(true:Bool)⟩] (.one (VC true)) [] [] (fun i h hh=>hh) rfl rfl rfl
 have k5:Ln=[]:=k4
 subst k5
 simp only[bP,VC,bM,bc,and_true]at k3
 exact⟨k1,k3⟩
end
end E
end
end Go.Proofs.YtjfkdglgecgjfaaGreat
