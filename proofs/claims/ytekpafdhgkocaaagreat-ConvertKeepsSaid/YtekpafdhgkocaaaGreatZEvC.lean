/- Part of the proof. -/
import Derived.Test.YtekpafdhgkocaaaGreatZEvA
namespace Go.Proofs.YtekpafdhgkocaaaGreat
section
open Go.RowKit G
namespace E
variable {S:Nat->Type}{tb:Tb S}{K:ju tb}
mutual
theorem CS.tn:∀{s:CS} {mp mp':List (Nat×Nat)} {vs vs':List (CV S)} {ds:List (qh S)},CS.take tb mp s vs=some (ds,vs',mp')->Sub mp mp'/\(qY mp->qY mp')
 |.cX c,mp,mp',vs,vs',ds,h=>by
  simp only[CS.take]at h;obtain⟨p,hp,h⟩:=af.1 h;simp only[aD]at h;obtain⟨_,_,rfl⟩:=h;exact⟨Sub.refl _,id⟩
 |.rw o c,mp,mp',vs,vs',ds,h=>by
  cases vs with
  |nil=>simp[CS.take]at h
  |cons v vs=>
   cases v<;>first|(simp[CS.take]at h;done)|skip
   simp only[CS.take]at h
   split at h
   . obtain⟨mp1,hu,h⟩:=af.1 h
     simp only[aD]at h
     obtain⟨_,_,rfl⟩:=h
     exact⟨(lU hu).1,(lU hu).2.1⟩
   . cases h
 |.aw o,mp,mp',vs,vs',ds,h=>by
  cases vs with
  |nil=>simp[CS.take]at h
  |cons v vs=>
   cases v<;>first|(simp[CS.take]at h;done)|skip
   simp only[CS.take]at h
   obtain⟨mp1,hu,h⟩:=af.1 h
   simp only[aD]at h
   obtain⟨_,_,rfl⟩:=h
   exact⟨(lU hu).1,(lU hu).2.1⟩
 |.ptr o off,mp,mp',vs,vs',ds,h=>by
  cases vs with
  |nil=>simp[CS.take]at h
  |cons v vs=>
   cases v<;>first|(simp[CS.take]at h;done)|skip
   simp only[CS.take]at h
   split at h
   . obtain⟨mp1,hu,h⟩:=af.1 h
     simp only[aD]at h
     obtain⟨_,_,rfl⟩:=h
     exact⟨(lU hu).1,(lU hu).2.1⟩
   . cases h
 |.mb,mp,mp',vs,vs',ds,h=>by
  cases vs with
  |nil=>simp[CS.take]at h
  |cons v vs=>
   cases v<;>first|(simp[CS.take]at h;done)|skip
   simp only[CS.take,al,aD]at h
   obtain⟨_,_,rfl⟩:=h
   exact⟨Sub.refl _,id⟩
 |.ed,mp,mp',vs,vs',ds,h=>by
  cases vs with
  |nil=>simp[CS.take]at h
  |cons v vs=>
   cases v<;>first|(simp[CS.take]at h;done)|skip
   simp only[CS.take,al,aD]at h
   obtain⟨_,_,rfl⟩:=h
   exact⟨Sub.refl _,id⟩
 |.fP,mp,mp',vs,vs',ds,h=>by
  cases vs with
  |nil=>simp[CS.take]at h
  |cons v vs=>
   cases v<;>first|(simp[CS.take]at h;done)|skip
   simp only[CS.take,al,aD]at h
   obtain⟨_,_,rfl⟩:=h
   exact⟨Sub.refl _,id⟩
 |.tt b,mp,mp',vs,vs',ds,h=>by
  cases vs with
  |nil=>simp[CS.take]at h
  |cons v vs=>
   cases v<;>first|(simp[CS.take]at h;done)|skip
   simp only[CS.take]at h
   split at h
   . simp only[al,aD]at h
     obtain⟨_,_,rfl⟩:=h
     exact⟨Sub.refl _,id⟩
   . cases h
 |.yl o,mp,mp',vs,vs',ds,h=>by
  cases vs with
  |nil=>simp[CS.take]at h
  |cons v vs=>
   cases v<;>first|(simp[CS.take]at h;done)|skip
   simp only[CS.take]at h
   obtain⟨mp1,hu,h⟩:=af.1 h
   simp only[aD]at h
   obtain⟨_,_,rfl⟩:=h
   exact⟨(lU hu).1,(lU hu).2.1⟩
 |.oL o,mp,mp',vs,vs',ds,h=>by
  cases vs with
  |nil=>simp[CS.take]at h
  |cons v vs=>
   cases v<;>first|(simp[CS.take]at h;done)|skip
   simp only[CS.take]at h
   obtain⟨mp1,hu,h⟩:=af.1 h
   simp only[aD]at h
   obtain⟨_,_,rfl⟩:=h
   exact⟨(lU hu).1,(lU hu).2.1⟩
 |.fn f xs ys,mp,mp',vs,vs',ds,h=>by
  cases vs with
  |nil=>simp[CS.take]at h
  |cons v vs=>
   cases v<;>first|(simp[CS.take]at h;done)|skip
   rename_i fn first caps
   cases fn<;>first|(simp[CS.take]at h;done)|skip
   simp only[CS.take]at h
   split at h
   . obtain⟨p,hp,h⟩:=ae.1 h
     obtain⟨pd,pv,pm⟩:=p
     split at h
     . obtain⟨q,hq,h⟩:=ae.1 h
       obtain⟨qd,qv,qm⟩:=q
       split at h
       . simp only[al,aD]at h
         obtain⟨_,_,rfl⟩:=h
         obtain⟨a1,a2⟩:=CS.uy hp
         obtain⟨b1,b2⟩:=CS.uy hq
         exact⟨a1.trans b1,fun hM=>b2 (a2 hM)⟩
       . cases h
     . cases h
   . cases h
theorem CS.uy:∀{l:List CS} {mp mp':List (Nat×Nat)} {vs vs':List (CV S)} {ds:List (qh S)},CS.takes tb mp l vs=some (ds,vs',mp')->Sub mp mp'/\(qY mp->qY mp')
 |[],mp,mp',vs,vs',ds,h=>by
  simp only[CS.takes,al,aD]at h;obtain⟨_,_,rfl⟩:=h;exact⟨Sub.refl _,id⟩
 |s::l,mp,mp',vs,vs',ds,h=>by
  simp only[CS.takes]at h;obtain⟨p,hp,h⟩:=ae.1 h;obtain⟨pd,pv,pm⟩:=p;obtain⟨q,hq,h⟩:=af.1 h;obtain⟨qd,qv,qm⟩:=q;simp only[aD]at h;obtain⟨_,_,rfl⟩:=h;obtain⟨a1,a2⟩:=CS.tn hp;obtain⟨b1,b2⟩:=CS.uy hq;exact⟨a1.trans b1,fun hM=>b2 (a2 hM)⟩
end
mutual
theorem PS.tn:∀{s:PS} {mp mp':List (Nat×Nat)} {v:AV S} {ds:List (qh S)},PS.take tb mp s v=some (ds,mp')->Sub mp mp'/\(qY mp->qY mp')
 |.one s,mp,mp',v,ds,h=>by
  cases v<;>first|(simp[PS.take]at h;done)|skip;simp only[PS.take]at h;obtain⟨p,hp,h⟩:=ae.1 h;obtain⟨pd,pv,pm⟩:=p;split at h
  . simp only[al,aD]at h;obtain⟨_,rfl⟩:=h;exact CS.tn hp
  . cases h
 |.agg l,mp,mp',v,ds,h=>by
  cases v<;>first|(simp[PS.take]at h;done)|skip;simp only[PS.take]at h;obtain⟨p,hp,h⟩:=ae.1 h;obtain⟨pd,pv,pm⟩:=p;split at h
  . simp only[al,aD]at h;obtain⟨_,rfl⟩:=h;exact CS.uy hp
  . cases h
 |.mj l,mp,mp',v,ds,h=>by
  cases v<;>first|(simp[PS.take]at h;done)|skip;simp only[PS.take]at h;exact PS.uy h
theorem PS.uy:∀{l:List PS} {mp mp':List (Nat×Nat)} {vs:List (AV S)} {ds:List (qh S)},PS.takes tb mp l vs=some (ds,mp')->Sub mp mp'/\(qY mp->qY mp')
 |[],mp,mp',vs,ds,h=>by
  cases vs with
  |nil=>
   simp only[PS.takes,al,aD]at h
   obtain⟨_,rfl⟩:=h
   exact⟨Sub.refl _,id⟩
  |cons=>simp[PS.takes]at h
 |s::l,mp,mp',vs,ds,h=>by
  cases vs with
  |nil=>simp[PS.takes]at h
  |cons v vs=>
   simp only[PS.takes]at h
   obtain⟨p,hp,h⟩:=ae.1 h
   obtain⟨q,hq,h⟩:=af.1 h
   obtain⟨pd,pm⟩:=p
   obtain⟨qd,qm⟩:=q
   simp only[aD]at h
   obtain⟨_,rfl⟩:=h
   obtain⟨a1,a2⟩:=PS.tn hp
   obtain⟨b1,b2⟩:=PS.uy hq
   exact⟨a1.trans b1,fun hM=>b2 (a2 hM)⟩
end
theorem Jr{tm:List (Nat×Nat×AV S)}:∀{l:List (Nat×PS)} {mp mp':List (Nat×Nat)} {ds:List (qh S)},yc tb tm mp l=some (ds,mp')->Sub mp mp'/\(qY mp->qY mp')
 |[],mp,mp',ds,h=>by
  simp only[yc,al,aD]at h;obtain⟨_,rfl⟩:=h;exact⟨Sub.refl _,id⟩
 |(t,s)::l,mp,mp',ds,h=>by
  simp only[yc]at h;obtain⟨a,ha,h⟩:=ae.1 h;obtain⟨p,hp,h⟩:=ae.1 h;obtain⟨r,hr,h⟩:=af.1 h;obtain⟨pd,pm⟩:=p;obtain⟨rd,rm⟩:=r;simp only[aD]at h;obtain⟨_,rfl⟩:=h;obtain⟨a1,a2⟩:=PS.tn hp;obtain⟨b1,b2⟩:=Jr hr;exact⟨a1.trans b1,fun hM=>b2 (a2 hM)⟩
theorem OS.tn{s:OS}{mp mp':List (Nat×Nat)}{a:AO S}{ds:List (qh S)}(h:OS.take tb mp s a=some (ds,mp')):Sub mp mp'/\(qY mp->qY mp'):=by
 unfold OS.take at h;split at h
 . split at h
   . obtain⟨p,hp,h⟩:=ae.1 h;obtain⟨pd,pv,pm⟩:=p;split at h
     . simp only[al,aD]at h;obtain⟨_,rfl⟩:=h;exact CS.uy hp
     . cases h
   . cases h
 . split at h
   . simp only[al,aD]at h;obtain⟨_,rfl⟩:=h;exact⟨Sub.refl _,id⟩
   . cases h
 . split at h
   . simp only[al,aD]at h;obtain⟨_,rfl⟩:=h;exact⟨Sub.refl _,id⟩
   . cases h
 . split at h
   . exact Jr h
   . cases h
 . split at h
   . simp only[al,aD]at h;obtain⟨_,rfl⟩:=h;exact⟨Sub.refl _,id⟩
   . cases h
 . split at h
   . simp only[al,aD]at h;obtain⟨_,rfl⟩:=h;exact⟨Sub.refl _,id⟩
   . cases h
 . split at h
   . obtain⟨mp1,hu,h⟩:=af.1 h;simp only[aD]at h;obtain⟨_,rfl⟩:=h;exact⟨(lU hu).1,(lU hu).2.1⟩
   . cases h
 . split at h
   . obtain⟨mp1,hu,h⟩:=af.1 h;simp only[aD]at h;obtain⟨_,rfl⟩:=h;exact⟨(lU hu).1,(lU hu).2.1⟩
   . cases h
 . cases h
theorem OS.yV{ob:List (Nat×Nat×AO S)}:∀{l:List OS} {mp mp':List (Nat×Nat)} {o:Nat} {ds:List (qh S)},OS.takes tb ob mp o l=some (ds,mp')->
 Sub mp mp'/\(qY mp->qY mp')/\∀i,o<=i->i<o+l.length->∃q a,look i mp'=some q/\look q ob=some a
 |[],mp,mp',o,ds,h=>by
  simp only[OS.takes,al,aD]at h;obtain⟨rfl,rfl⟩:=h;exact⟨Sub.refl _,id,fun i h1 h2=>by simp at h2;omega⟩
 |s::l,mp,mp',o,ds,h=>by
  simp only[OS.takes]at h;obtain⟨q,hq,h⟩:=ae.1 h;obtain⟨a,ha,h⟩:=ae.1 h;obtain⟨p,hp,h⟩:=ae.1 h;obtain⟨r,hr,h⟩:=af.1 h;obtain⟨rd,rm⟩:=r;simp only[aD]at h;obtain⟨_,rfl⟩:=h;obtain⟨a1,a2⟩:=OS.tn hp;obtain⟨b1,b2,b3⟩:=OS.yV hr;refine⟨a1.trans b1,fun hM=>b2 (a2 hM),fun i h1 h2=>?_⟩;by_cases e:i=o
  . subst e;exact⟨q,a,b1 _ _ (a1 _ _ hq),ha⟩
  . exact b3 i (by omega) (by simp at h2;omega)
theorem OS.DP{g:GG S}{m:Mem}{ob:List (Nat×Nat×AO S)}:∀{l:List OS} {mp mp' mp1:List (Nat×Nat)} {o:Nat} {ds:List (qh S)} {L:List cp},OS.takes tb ob mp o l=some (ds,mp')->Sub mp' mp1->lv K g m (pick ob (Iu mp1 o l.length)) L->
 ∀(g':GG S) (ids:Nat->Nat) (ds0:List (qh S)) (aS:List (AO S)) (ds1:List (qh S)),Ren mp1 g g' ids->OS.kV tb ids l (ds++ds0)=some (aS,ds1)->ds1=ds0/\Sb K g' m ids o aS L/\aS.length=l.length
 |[],mp,mp',mp1,o,ds,L,h,hS,hL,g',ids,ds0,aS,ds1,hR,hf=>by
  simp only[OS.takes,al,aD]at h;obtain⟨rfl,rfl⟩:=h;simp only[a7,OS.kV]at hf;cases hf;exact⟨rfl,hL,rfl⟩
 |s::l,mp,mp',mp1,o,ds,L,h,hS,hL,g',ids,ds0,aS,ds1,hR,hf=>by
  simp only[OS.takes]at h;obtain⟨q,hq,h⟩:=ae.1 h;obtain⟨a,ha,h⟩:=ae.1 h;obtain⟨p,hp,h⟩:=ae.1 h;obtain⟨r,hr,h⟩:=af.1 h;obtain⟨pd,pm⟩:=p;obtain⟨rd,rm⟩:=r;simp only[aD]at h;obtain⟨rfl,rfl⟩:=h;have a1:=(OS.tn hp).1;have b1:=(OS.yV hr).1;have hq1:look o mp1=some q:=hS _ _ (b1 _ _ (a1 _ _ hq));simp only[bK,Iu,hq1,pick,ha,lv]at hL;obtain⟨e,L',rfl,h1,h2,h3⟩:=hL;obtain⟨_,_,a3⟩:=OS.yd hp h2;simp only[az,OS.kV]at hf;obtain⟨p1,hp1,hf1⟩:=ae.1 hf;obtain⟨q1,hq1',hf2⟩:=af.1 hf1;obtain⟨w1,r1⟩:=p1;obtain⟨w2,r2⟩:=q1;clear hf hf1;obtain⟨rfl,k2⟩:=a3 g' ids (ids o) _ _ _ (hR.sub (b1.trans hS)) (fun gh hgh=>hR _ _ _ hq1 hgh) hp1;obtain⟨rfl,l2,l3⟩:=OS.DP hr hS h3 g' ids _ _ _ hR hq1';simp only[al,aD]at hf2;obtain⟨rfl,rfl⟩:=hf2;exact⟨rfl,⟨e,L',rfl,k2,l2⟩,by simp[l3]⟩
def X0(bk:Nat->Option Gh):GG S:={bk:=bk,vv:=fun _=>none,oo:=fun _=>none}
def yE:List KS->List cp->List cp
 |.kept::l,e::L=>e::yE l L
 |_::l,_::L=>yE l L
 |_,_=>[]
theorem Nf{γ:Type}{k:(o:Out)->HT S o.Bl->Option γ}{r:γ}:∀{os:List Out} {y:qX S os},aac os y k=some r->KF os y fun o z=>k o z=some r
 |[],_,h=>by cases h
 |[o],y,h=>h
 |_::_::_,Sum.inl _,h=>h
 |_::p::os,Sum.inr _,h=>Nf (os:=p::os) h
theorem OB{p:(o:Out)->HT S o.Bl->Prop}:∀{os:List Out} {y:qX S os},KF os y p->∃o z,o∈os/\p o z/\∀q:(o:Out)->HT S o.Bl->Prop,KF os y q->q o z
 |[],_,h=>h.elim
 |[o],y,h=>⟨o,y,ax,h,fun q hq=>hq⟩
 |o::_::_,Sum.inl z,h=>⟨o,z,ax,h,fun q hq=>hq⟩
 |_::o'::os,Sum.inr _,h=>by
  obtain⟨o1,z1,h1,h2,h3⟩:=OB (os:=o'::os) h;exact⟨o1,z1,aE _ h1,h2,fun q hq=>h3 q hq⟩
theorem Ng{p q:(o:Out)->HT S o.Bl->Prop}:∀{os:List Out} {y:qX S os},KF os y p->(∀o z,o∈os->p o z->q o z)->KF os y q
 |[],_,h,_=>h.elim
 |[o],y,h,hq=>hq o y ax h
 |o::_::_,Sum.inl z,h,hq=>hq o z ax h
 |_::o'::os,Sum.inr _,h,hq=>Ng (os:=o'::os) h fun o z ho=>hq o z (aE _ ho)
theorem GA{n:Nat}{v:AV S}{σ0 σ:AS S}:∀{os:List Out} {y:qX S os},zl tb n v σ0 σ os=some y->KF os y fun o z=>finish tb n o v σ0 σ=some z
 |[],_,h=>by cases h
 |[o],y,h=>h
 |o::p::os,y,h=>by
  unfold zl at h;split at h
  . rename_i z hz;cases h;exact hz
  . obtain⟨z,hz,rfl⟩:=af.1 h;exact GA (os:=p::os) hz
theorem Jb{α:Type}{p:(o:Out)->HT S o.Bl->Prop}{q:α->(o:Out)->HT S o.Bl->Prop}:∀{os:List Out} {y:qX S os},KF os y p->(∀o z,o∈os->p o z->∃x,q x o z)->∃x,KF os y (q x)
 |[],_,h,_=>h.elim
 |[o],y,h,hq=>hq o y ax h
 |o::_::_,Sum.inl z,h,hq=>hq o z ax h
 |_::o'::os,Sum.inr _,h,hq=>Jb (os:=o'::os) h fun o z ho=>hq o z (aE _ ho)
def I8(K:ju tb)(n:Nat)(o:Out)(bk:Nat->Option Gh)(L:List cp)(y:HT S o.Bl)(v:Value)(m':Mem)(L':List cp):Prop:=
 ∃(Sd:Nat->Option Gh) (Ln:List cp),L'=yE o.lB L++Ln/\(∀i,i<n->Sd i=bk i)/\(∀i,o.lB.length<=i->Sd i=none)/\
  ∀(g:GG S) (ids:Nat->Nat) (ds:List (qh S)) (out:AV S) (ds1:List (qh S)) (l:List (Nat×AO S)),(∀i h,Sd i=some h->g.bk (ids i)=some h)->xB o.Sd (Ai o.Bl y)=some ds->PS.fill tb ids o.out ds=some (out,ds1)->OS.outs tb ids 0 o.lB ds1=some l->
   cn K g m' out v/\Kq K g m' l Ln
def c9(K:ju tb)(c:cU S)(bk:Nat->Option Gh)(L:List cp)(y:qX S c.outs)(v:Value)(m':Mem)(L':List cp):Prop:=KF c.outs y fun o z=>I8 K c.eW.length o bk L z v m' L'
def B9(P:Program)(f:FuncId)(vals:List Value)(w:World)(R:Ending->World->Prop):Prop:=
 if f<=999999 then Enters P f/\Calls P f vals.toArray w R
 else ∃l args fn tmps yf body,vals=.func (.yield l) #[] #[]::args/\(Instr.yield l args.toArray).run P w=.ok (.round l fn tmps yf body) w/\RoundIn (FW none) 0 P l fn tmps yf body w R
theorem B9.mono{P:Program}{f:FuncId}{vals:List Value}{w:World}{R R':Ending->World->Prop}(h:B9 P f vals w R)(hr:∀e w',R e w'->R' e w'):B9 P f vals w R':=by
 unfold B9 at*
 split at h
 . rename_i hf;rw[if_pos hf];exact⟨h.1,Calls.mono h.2 hr⟩
 . rename_i hf;rw[if_neg hf];obtain⟨l,args,fn,tmps,yf,body,h1,h2,h3⟩:=h;exact⟨l,args,fn,tmps,yf,body,h1,h2,h3.mono hr⟩
theorem sc{t:Nat}:∀{l:List Nat},has t l=true↔t∈l
 |[]=>by simp[has]
 |u::l=>by
  unfold has;by_cases h:u=t
  . subst h;simp
  . rw[xc h];simp only[sc,aZ];exact⟨.inr,fun h'=>h'.resolve_left fun e=>h e.symm⟩
theorem qC:∀{l:List Nat},nI l=true->l.Nodup
 |[],_=>List.nodup_nil
 |x::l,h=>by
  unfold nI at h;split at h
  . cases h
  . rename_i hx;exact List.nodup_cons.2 ⟨fun hm=>(by rw[sc.2 hm]at hx;cases hx),qC h⟩
def NC.Nat(c:NC S):Prop:=∀(γ γ':Type) (φ:γ->γ') (_:∀x y,φ x=φ y->x=y) (k:HT S c.out.Bl->Option γ) (k':HT S c.out.Bl->Option γ') (_:∀y,k' y=(k y).map φ) (x:HT S c.ls),c.JP γ' k' x=(c.JP γ k x).map φ
structure qE(P:Program)(K:ju tb)(c:NC S):Prop where
 nat:c.Nat
 go:∀(x:HT S c.ls) (γ:Type) (k:HT S c.out.Bl->Option γ) (z:γ) (bk:Nat->Option Gh) (m:Mem) (vals:List Value) (L:List cp),c.JP γ k x=some z->(∀i,c.eW.length<=i->bk i=none)->
  (∀ds args ds1 eW ds2,xB c.bk (Ai c.ls x)=some ds->PS.kV tb id c.ins ds=some (args,ds1)->OS.kV tb id c.eW ds1=some (eW,ds2)->fO K (X0 bk) m args vals/\Sb K (X0 bk) m id 0 eW L)->L.length=c.eW.length->Ow m L->K.B m->
  B9 P c.f vals m.w fun e w'=>∃y v m' L',k y=some z/\e=.returned v/\m'.w=w'/\St (bW L) m m' L'/\I8 K c.eW.length c.out bk L y v m' L'
def Sh(P:Program)(K:ju tb){γ:Type}(f:FuncId)(args:List (AV S))(ob:List (_root_.Nat×_root_.Nat×AO S))(ct:_root_.Nat)(k:sT S->Option γ)(z:γ):Prop:=∃rd rm:List _root_.Nat,(rd++rm).Nodup/\
 ∀(g:GG S) (m:Mem) (vals:List Value) (Lr Lm:List cp),FR g ct->K.B m->fO K g m args vals->lv K g m (pick ob rd) Lr->lv K g m (pick ob rm) Lm->Ow m (Lr++Lm)->
  B9 P f vals m.w fun e w'=>∃v res,e=.returned v/\k res=some z/\res.rd=rd/\res.rm=rm/\res.add.length<=31/\I4 K g m ct Lr Lm res v w'
structure Sound(P:Program)(K:ju tb)(c:cU S):Prop where
 go:∀(x:HT S c.ls) (y:qX S c.outs) (bk:Nat->Option Gh) (m:Mem) (vals:List Value) (L:List cp),c.pJ x=some y->(∀i,c.eW.length<=i->bk i=none)->
  (∀ds args ds1 eW ds2,xB c.bk (Ai c.ls x)=some ds->PS.kV tb id c.ins ds=some (args,ds1)->OS.kV tb id c.eW ds1=some (eW,ds2)->fO K (X0 bk) m args vals/\Sb K (X0 bk) m id 0 eW L)->L.length=c.eW.length->Ow m L->K.B m->
  B9 P c.f vals m.w fun e w'=>∃v m' L',e=.returned v/\m'.w=w'/\St (bW L) m m' L'/\c9 K c bk L y v m' L'
section
variable {g:GG S}{m:Mem}{ob:List (Nat×Nat×AO S)}{mp:List (Nat×Nat)}
theorem CG:∀{l:List KS} {o n:Nat} {Lr Lm:List cp},n<=l.length->(∀i,o<=i->i<o+n->∃q a,look i mp=some q/\look q ob=some a)->(∀i q,look i mp=some q->i<o+n)->
 lv K g m (pick ob (lH mp true o l)) Lr->lv K g m (pick ob (lH mp false o l)) Lm->∃L,lv K g m (pick ob (Iu mp o n)) L/\List.Perm L (Lr++Lm)/\yE l L=Lr/\L.length=n
 |[],o,n,Lr,Lm,hn,h1,h2,hr,hm=>by
  simp only[List.length_nil,Nat.le_zero_eq]at hn;subst hn;simp only[lH,pick,lv]at hr hm;subst hr;subst hm;exact⟨[],rfl,List.Perm.refl _,rfl,rfl⟩
 |s::l,o,0,Lr,Lm,hn,h1,h2,hr,hm=>by
  have hN:look o mp=none:=by
   cases h:look o mp with
   |none=>rfl
   |some q=>have:=h2 o q h;omega
  simp only[lH,hN]at hr hm;obtain⟨L,k1,k2,k3,k4⟩:=CG (n:=0) (Nat.zero_le _) (fun i a b=>by omega) (fun i q h=>by have:=h2 i q h;omega) hr hm;have:L=[]:=List.length_eq_zero_iff.1 k4;subst this;refine⟨[],k1,k2,?_,rfl⟩;have hLr:Lr=[]:=by
   have:=k2.length_eq;simp only[List.length_nil,ak]at this;exact List.length_eq_zero_iff.1 (by omega)
  rw[hLr];cases s<;>rfl
 |s::l,o,n+1,Lr,Lm,hn,h1,h2,hr,hm=>by
  obtain⟨q,a,hq,ha⟩:=h1 o (by omega) (by omega);have hn':n<=l.length:=by simpa using hn
  have h1':∀i,o+1<=i->i<o+1+n->∃q a,look i mp=some q/\look q ob=some a:=fun i a b=>h1 i (by omega) (by omega)
  have h2':∀i q,look i mp=some q->i<o+1+n:=fun i q h=>by have:=h2 i q h;omega
  simp only[lH,hq]at hr hm
  cases hs:s.isK with
  |true=>
   simp only[hs,beq_self_eq_true,pick,ha,lv]at hr
   obtain⟨e,Lr',rfl,g1,g2,g3⟩:=hr
   have hm':lv K g m (pick ob (lH mp false (o+1) l)) Lm:=by simpa[hs]using hm
   obtain⟨L,k1,k2,k3,k4⟩:=CG hn' h1' h2' g3 hm'
   refine⟨e::L,?_,?_,?_,by simp[k4]⟩
   . simp only[Iu,hq,pick,ha,lv];exact⟨e,L,rfl,g1,g2,k1⟩
   . exact k2.cons e
   . cases s<;>first|(cases hs;done)|skip
     simp only[yE,k3]
  |false=>
   simp only[hs,beq_self_eq_true,pick,ha,lv]at hm
   obtain⟨e,Lm',rfl,g1,g2,g3⟩:=hm
   have hr':lv K g m (pick ob (lH mp true (o+1) l)) Lr:=by simpa[hs]using hr
   obtain⟨L,k1,k2,k3,k4⟩:=CG hn' h1' h2' hr' g3
   refine⟨e::L,?_,?_,?_,by simp[k4]⟩
   . simp only[Iu,hq,pick,ha,lv];exact⟨e,L,rfl,g1,g2,k1⟩
   . exact(k2.cons e).trans List.perm_middle.symm
   . cases s<;>first|(cases hs;done)|simp only[yE,k3]
theorem CN{ids:Nat->Nat}:∀{l:List KS} {o:Nat} {ds:List (qh S)} {r:List (Nat×AO S)},OS.outs tb ids o l ds=some r->r.length<=l.length
 |[],o,ds,r,h=>by
  cases ds with
  |nil=>simp only[OS.outs,al]at h;subst h;simp
  |cons=>simp[OS.outs]at h
 |.now s::l,o,ds,r,h=>by
  simp only[OS.outs]at h;obtain⟨p,hp,h⟩:=ae.1 h;obtain⟨q,hq,rfl⟩:=af.1 h;have:=CN hq;simp;omega
 |.kept::l,o,ds,r,h=>by
  simp only[OS.outs]at h;have:=CN h;simp;omega
 |.gone::l,o,ds,r,h=>by
  simp only[OS.outs]at h;have:=CN h;simp;omega
theorem Va{B B':List Nat}{m0 m:Mem}{L:List cp}(h:St B m0 m L)(hb:∀b,b∈B↔b∈B'):St B' m0 m L:=
 ⟨h.le,fun b h1 h2=>h.kept b h1 fun h3=>h2 ((hb b).1 h3),fun b o h1=>(h.news b o h1).imp id (fun h2=>h2.imp id (hb b).1),h.ow,fun b h1=>(h.MD b h1).imp (hb b).1 id⟩
end
section
variable {P:Program}{ob:List (Nat×Nat×AO S)}{ct:Nat}{γ:Type}{k:sT S->Option γ}{r:γ}{f:FuncId}{args:List (AV S)}
theorem Cn:∀{Φ:List (cU S)},(∀c∈Φ,Sound P K c)->zh tb f args ob ct k Φ=some r->∃res,k res=some r/\res.add.length<=31/\
 ∀(g:GG S) (m:Mem) (vals:List Value) (Lr Lm:List cp),FR g ct->K.B m->fO K g m args vals->lv K g m (pick ob res.rd) Lr->lv K g m (pick ob res.rm) Lm->Ow m (Lr++Lm)->
  B9 P f vals m.w fun e w'=>∃v,e=.returned v/\I4 K g m ct Lr Lm res v w'
 |[],_,h=>by simp[zh]at h
 |c::cs,hΦ,h=>by
  simp only[zh]at h;split at h
  . exact Cn (fun c hc=>hΦ c (aE _ hc)) h
  . rename_i hcf;have hcf:=ah hcf;split at h
    . exact Cn (fun c hc=>hΦ c (aE _ hc)) h
    . rename_i x mp hx;have hS:=hΦ c ax;obtain⟨⟨pd,mp0⟩,hp,hx1⟩:=ae.1 hx;obtain⟨⟨qd,mp1⟩,hq,hx2⟩:=ae.1 hx1;obtain⟨ds,hds,hx3⟩:=ae.1 hx2;obtain⟨x',hx',hx4⟩:=af.1 hx3;simp only[aD]at hx4;obtain⟨rfl,rfl⟩:=hx4;clear hx hx1 hx2 hx3;obtain⟨y,hy,h1⟩:=ae.1 h;obtain⟨o,z,ho,h1,hy2⟩:=OB (Nf h1);split at h1
      . rename_i v l hvl;obtain⟨u,hchk,hvl1⟩:=ae.1 hvl;obtain⟨ds',hds',hvl2⟩:=ae.1 hvl1;obtain⟨⟨out,ds1⟩,hout,hvl3⟩:=ae.1 hvl2;obtain⟨l',hl',hvl4⟩:=af.1 hvl3;simp only[aD]at hvl4;obtain⟨rfl,rfl⟩:=hvl4;have hfew:=c.J4;simp only[aq]at hfew;have hf1:=ay (aR.1 hfew.2 o ho);have hf2:=ay o.J4;refine⟨_,h1,Nat.le_trans (CN hl') (by omega),fun g m vals Lr Lm hF hB hA hR hM hO=>?_⟩;have hkey:∀i q,look i mp1=some q->i<c.eW.length:=fun i q hi=>by
         unfold aap at hchk;split at hchk
         . rename_i hb;have:=ay (aR.1 hb _ (nW hi));exact this
         . cases hchk
        obtain⟨s1,s2,s3⟩:=PS.tp hp hA;obtain⟨t1,t2,t3⟩:=OS.yV hq;have hMp:=t2 (s2 qY.nil);obtain⟨L,k1,k2,k3,k4⟩:=CG (o:=0) (n:=c.eW.length) hf1 (fun i a b=>t3 i a (by omega)) (fun i q hi=>by have:=hkey i q hi;omega) hR hM;have hRen:Ren mp1 g (X0 fun i=>(look i mp1).bind g.bk) id:=fun o q h ho hb=>by
         show((look o mp1).bind g.bk)=some h;rw[ho];exact hb
        have hdx:=Lh hx';have key:=hS.go x' y (fun i=>(look i mp1).bind g.bk) m vals L hy (fun i hi=>by
         cases hl:look i mp1 with
         |none=>rfl
         |some q=>have:=hkey i q hl;omega) (fun ds2 args2 ds3 obs2 ds4 e1 e2 e3=>by
          rw[hdx]at e1;have:=DH c.Z0 hds e1;subst this;obtain⟨rfl,j2⟩:=s3 _ _ _ _ _ (hRen.sub t1) e2;obtain⟨_,j3,_⟩:=OS.DP hq (Sub.refl _) k1 _ _ [] _ _ hRen (by rw[aL];exact e3);exact⟨j2,j3⟩) k4 (hO.perm k2.symm) hB
        rw[hcf]at key;refine key.mono fun e w' ⟨v',m',L',q1,q2,q3,q4⟩=>⟨v',q1,?_⟩
        obtain⟨Sd,Ln,rfl,b1,b2,b3⟩:=hy2 _ q4;rw[k3]at q3;let g2:GG S:={g with bk:=fun i=>if ct+1<=i/\i<ct+32 then(match look (i-(ct+1)) mp1 with|some _=>g.bk i|none=>Sd (i-(ct+1)))else g.bk i};have hge:GE g g2:=⟨fun i z hz=>by
         show(if _ then _ else _)=_;rw[if_neg fun hh=>by have:=(hF i (by omega) (by omega)).1;rw[this]at hz;cases hz];exact hz,fun _ _ h=>h,fun _ _ h=>h⟩
        obtain⟨c1,c2⟩:=b3 g2 (zg mp1 ct) ds' out ds1 l' (fun i z hz=>by
         unfold zg;split
         . rename_i q hq';have:Sd i=g.bk q:=by
            rw[b1 i (hkey i q hq')];show(look i mp1).bind g.bk=_;rw[hq'];rfl
           exact hge.bk _ _ (by rw[<- this];exact hz)
         . rename_i hn;have hi:i<o.lB.length:=Nat.lt_of_not_le fun h'=>by rw[b2 i h']at hz;cases hz
           show(if _ then _ else _)=_;rw[if_pos (by omega),show ct+1+i-(ct+1)=i by omega,hn];exact hz) hds' hout hl'
        refine⟨m',g2,Ln,q2,Va q3 (fun b=>?_),hge,rfl,rfl,fun i hi=>?_,c2,c1⟩
        . rw[fJ,fJ];exact⟨fun⟨e,h1,h2⟩=>⟨e,k2.mem_iff.1 h1,h2⟩,fun⟨e,h1,h2⟩=>⟨e,k2.mem_iff.2 h1,h2⟩⟩
        . refine aP fun hn=>hi ?_
          show(if _ then _ else _)=_;rw[if_neg hn]
      . cases h1
theorem DE:∀{Ψ:List (NC S)},(∀c∈Ψ,qE P K c)->vZ tb f args ob ct k Ψ=some r->Sh P K f args ob ct k r
 |[],_,h=>by simp[vZ]at h
 |c::cs,hΨ,h=>by
  simp only[vZ]at h;split at h
  . exact DE (fun c hc=>hΨ c (aE _ hc)) h
  . rename_i hcf;have hcf:=ah hcf;split at h
    . exact DE (fun c hc=>hΨ c (aE _ hc)) h
    . rename_i x mp hx;have hS:=hΨ c ax;obtain⟨⟨pd,mp0⟩,hp,hx1⟩:=ae.1 hx;obtain⟨⟨qd,mp1⟩,hq,hx2⟩:=ae.1 hx1;obtain⟨ds,hds,hx3⟩:=ae.1 hx2;obtain⟨x',hx',hx4⟩:=af.1 hx3;simp only[aD]at hx4;obtain⟨rfl,rfl⟩:=hx4;clear hx hx1 hx2 hx3;obtain⟨u,hchk,hy⟩:=ae.1 h;have hchk:((mp1.all fun p=>Nat.ble (p.1+1) c.eW.length)&&nI (lH mp1 true 0 c.out.lB++lH mp1 false 0 c.out.lB))=true:=by
       unfold aap at hchk;split at hchk
       . rename_i hb;exact hb
       . cases hchk
      simp only[aq]at hchk;have hfew:=c.J4;simp only[aq]at hfew;have hf1:=ay hfew.2;have hf2:=ay c.out.J4;refine⟨lH mp1 true 0 c.out.lB,lH mp1 false 0 c.out.lB,qC hchk.2,fun g m vals Lr Lm hF hB hA hR hM hO=>?_⟩;have hkey:∀i q,look i mp1=some q->i<c.eW.length:=fun i q hi=>by
       exact ay (aR.1 hchk.1 _ (nW hi))
      obtain⟨s1,s2,s3⟩:=PS.tp hp hA;obtain⟨t1,t2,t3⟩:=OS.yV hq;have hMp:=t2 (s2 qY.nil);obtain⟨L,k1,k2,k3,k4⟩:=CG (o:=0) (n:=c.eW.length) hf1 (fun i a b=>t3 i a (by omega)) (fun i q hi=>by have:=hkey i q hi;omega) hR hM;have hRen:Ren mp1 g (X0 fun i=>(look i mp1).bind g.bk) id:=fun o q h ho hb=>by
       show((look o mp1).bind g.bk)=some h;rw[ho];exact hb
      have hdx:=Lh hx';have key:=hS.go x' _ _ _ (fun i=>(look i mp1).bind g.bk) m vals L hy (fun i hi=>by
       cases hl:look i mp1 with
       |none=>rfl
       |some q=>have:=hkey i q hl;omega) (fun ds2 args2 ds3 obs2 ds4 e1 e2 e3=>by
        rw[hdx]at e1;have:=DH c.Z0 hds e1;subst this;obtain⟨rfl,j2⟩:=s3 _ _ _ _ _ (hRen.sub t1) e2;obtain⟨_,j3,_⟩:=OS.DP hq (Sub.refl _) k1 _ _ [] _ _ hRen (by rw[aL];exact e3);exact⟨j2,j3⟩) k4 (hO.perm k2.symm) hB
      rw[hcf]at key;refine key.mono fun e w' ⟨y,v',m',L',hky,q1,q2,q3,q4⟩=>?_
      split at hky
      case h_2=>cases hky
      case h_1 out l' hvl=>
      obtain⟨ds',hds',hvl2⟩:=ae.1 hvl;obtain⟨⟨out',ds1⟩,hout,hvl3⟩:=ae.1 hvl2;obtain⟨l2,hl',hvl4⟩:=af.1 hvl3;simp only[aD]at hvl4;obtain⟨rfl,rfl⟩:=hvl4;refine⟨v',_,q1,hky,rfl,rfl,Nat.le_trans (CN hl') (by omega),?_⟩;obtain⟨Sd,Ln,rfl,b1,b2,b3⟩:=q4;rw[k3]at q3;let g2:GG S:={g with bk:=fun i=>if ct+1<=i/\i<ct+32 then(match look (i-(ct+1)) mp1 with|some _=>g.bk i|none=>Sd (i-(ct+1)))else g.bk i};have hge:GE g g2:=⟨fun i z hz=>by
       show(if _ then _ else _)=_;rw[if_neg fun hh=>by have:=(hF i (by omega) (by omega)).1;rw[this]at hz;cases hz];exact hz,fun _ _ h=>h,fun _ _ h=>h⟩
      obtain⟨c1,c2⟩:=b3 g2 (zg mp1 ct) ds' out' ds1 l2 (fun i z hz=>by
       unfold zg;split
       . rename_i q hq';have:Sd i=g.bk q:=by
          rw[b1 i (hkey i q hq')];show(look i mp1).bind g.bk=_;rw[hq'];rfl
         exact hge.bk _ _ (by rw[<- this];exact hz)
       . rename_i hn;have hi:i<c.out.lB.length:=Nat.lt_of_not_le fun h'=>by rw[b2 i h']at hz;cases hz
         show(if _ then _ else _)=_;rw[if_pos (by omega),show ct+1+i-(ct+1)=i by omega,hn];exact hz) hds' hout hl'
      refine⟨m',g2,Ln,q2,Va q3 (fun b=>?_),hge,rfl,rfl,fun i hi=>?_,c2,c1⟩
      . rw[fJ,fJ];exact⟨fun⟨e,h1,h2⟩=>⟨e,k2.mem_iff.1 h1,h2⟩,fun⟨e,h1,h2⟩=>⟨e,k2.mem_iff.2 h1,h2⟩⟩
      . refine aP fun hn=>hi ?_
        show(if _ then _ else _)=_;rw[if_neg hn]
theorem SF{Φ:List (cU S)}(hΦ:∀c∈Φ,Sound P K c){kk:sT S->Option γ}(h:zh tb f args ob ct (fun r'=>match nI (r'.rd++r'.rm)with|true=>kk r'|false=>none) Φ=some r):Sh P K f args ob ct kk r:=by
 obtain⟨res,h1,h2,h4⟩:=Cn hΦ h;split at h1
 . rename_i hn;exact⟨res.rd,res.rm,qC hn,fun g m vals Lr Lm hF hB hA hR hM hO=>(h4 g m vals Lr Lm hF hB hA hR hM hO).mono fun e w' ⟨v,hv,hD⟩=>⟨v,res,hv,h1,rfl,rfl,h2,hD⟩⟩
 . cases h1
theorem wI{g:GG S}{m:Mem}:∀{aS bs:List (AV S)} {us vs:List Value},fO K g m aS us->fO K g m bs vs->fO K g m (aS++bs) (us++vs)
 |[],bs,us,vs,h,h'=>by simp only[fO]at h;subst h;exact h'
 |a::aS,bs,us,vs,h,h'=>by
  simp only[fO]at h;obtain⟨x,r,rfl,h1,h2⟩:=h;simp only[bD,fO];exact⟨x,r++vs,rfl,h1,wI h2 h'⟩
theorem aaf{g:GG S}{m:Mem}{v:CV S}{u:Value}(h:b7 K g m v [u]\/W7 K g m v u):cn K g m (Hu v) u:=by
 rcases h with h|h
 . cases v<;>first|(simp only[Hu,cn];exact h)|(simp only[b7]at h)
 . cases v<;>first|(simp only[W7]at h;done)|skip;simp only[W7]at h;obtain⟨cs,h1,h2⟩:=h;simp only[Hu,cn];exact⟨cs,h1,Gp.1 h2⟩
theorem yh{g:GG S}{m:Mem}:∀{vs:List (CV S)} {us:List Value},qk K g m vs us->fO K g m (vs.map Hu) us
 |[],us,h=>by simp only[qk]at h;subst h;simp only[bG,fO]
 |v::vs,us,h=>by
  simp only[qk]at h;obtain⟨u,us',rfl,h1,h2⟩:=h;simp only[aO,fO];exact⟨u,us',rfl,aaf h1,yh h2⟩
theorem Dn{g:GG S}{m:Mem}{a:Act}:∀{l:List Operand} {xs:List (AV S)},zb K g m a l xs->fO K g m xs (l.map a.eval)
 |[],xs,h=>by simp only[zb]at h;subst h;simp only[bG,fO]
 |x::l,xs,h=>by
  obtain⟨v,vs,rfl,h1,h2⟩:=h;simp only[aO,fO];exact⟨_,_,rfl,h1,Dn h2⟩
theorem abc{o:Oper}{Φ:List (cU S)}(hΦ:∀c∈Φ,Sound P K c){y:Operand}{ops:Array Operand}{ts:Array TypeId}(ho:o.op=.call ⟨.value y,ops,ts⟩){f:FuncId}{first caps:List (CV S)}{xs:List (AV S)}(hf:f<=999999)
 (h:zh tb f (first.map Hu++xs++caps.map Hu) ob ct k Φ=some r):ji P K o (.one (.fn (.func f) first caps)::xs) ob ct k r:=by
 have hox:o.op.operands.toList=y::ops.toList:=by rw[ho];simp[Op.operands,Call.operands]
 obtain⟨res,h1,h2,h4⟩:=Cn hΦ h
 refine⟨res,h1,h2,fun g a m Lr Lm hF hB ha hR hM hO=>?_⟩
 rw[hox]at ha
 obtain⟨v,vs,e,a1,a2⟩:=ha
 cases e
 simp only[cn,b7]at a1
 obtain⟨v1,v2,e1,a3,a4⟩:=a1
 have key:=h4 g m _ Lr Lm hF hB (wI (wI (yh a3) (Dn a2)) (yh a4)) hR hM hO
 unfold B9 at key
 rw[if_pos hf]at key
 obtain⟨h3,key⟩:=key
 have hrun:(execOp a.eval o).run P m.w=.ok (.enter f (v1++ops.toList.map a.eval++v2).toArray) m.w:=by
  unfold execOp;have e2:a.eval y=.func (.func f) v1.toArray v2.toArray:=by simpa using e1
  simp only[ho,resolve,e2,Deferred.ofValue,Sem.run_bind,Sem.run_pure,Result.andThen_ok,invoke];rw[h3];congr 2;apply Array.ext';simp
 unfold bU
 rw[hrun]
 exact key
theorem YR{o:Oper}{Φ:List (cU S)}(hΦ:∀c∈Φ,Sound P K c){y:Operand}{ops:Array Operand}{ts:Array TypeId}(ho:o.op=.call ⟨.value y,ops,ts⟩){q rr:Nat}{xs:List (AV S)}
 (h:zh tb (Z3 rr) (.one (.yl q)::xs) ob ct k Φ=some r):ji P K o (.one (.yl q)::xs) ob ct k r:=by
 have hox:o.op.operands.toList=y::ops.toList:=by rw[ho];simp[Op.operands,Call.operands]
 obtain⟨res,h1,h2,h4⟩:=Cn hΦ h
 refine⟨res,h1,h2,fun g a m Lr Lm hF hB ha hR hM hO=>?_⟩
 rw[hox]at ha
 obtain⟨v,vs,e,a1,a2⟩:=ha
 cases e
 simp only[cn,b7]at a1
 obtain⟨gh,l0,e1,e2,e3⟩:=a1
 have key:=h4 g m (a.eval y::ops.toList.map a.eval) Lr Lm hF hB (by simp only[fO];exact⟨_,_,rfl,by simp only[cn,b7];exact⟨gh,l0,e1,e2,e3⟩,Dn a2⟩) hR hM hO
 unfold B9 at key
 rw[if_neg (show ¬ (Z3 rr<=999999) from Nat.not_le.2 (show 999999<1000000+rr from by omega))]at key
 obtain⟨l,args,fn,tmps,yf,body,k1,k2,k3⟩:=key
 simp only[bw]at k1
 obtain⟨k1,rfl⟩:=k1
 have hrun:(execOp a.eval o).run P m.w=.ok (.round l fn tmps yf body) m.w:=by
  unfold execOp;simp only[ho,resolve,k1,Deferred.ofValue,Sem.run_bind,Sem.run_pure,Result.andThen_ok,invoke];have e4:((ops.toList.map a.eval).toArray:Array Value)=ops.map a.eval:=by apply Array.ext';simp
  rw[e4]at k2;simpa using k2
 unfold bU
 rw[hrun]
 exact k3
end
end E
end
section
open Go.RowKit G
open Go.ChangeMaps (setBlock heap_setBlock_same heap_setBlock_other)
namespace E
variable {S:Nat->Type}{tb:Tb S}{K:ju tb}{P:Program}{o:Oper}{xs:List (AV S)}{ob:List (Nat×Nat×AO S)}{ct:Nat}{γ:Type}{k:sT S->Option γ}{r:γ}{tt:TypeId->Option (TI S)}{g:GG S}{m:Mem}
theorem yH(hT:gj P K tt){t:TypeId}{i:Co×Co×TI S}(h:Ap tb tt t=some i):
 ∃kt et,P.underlying t=some (.map kt et)/\tt et=some i.2.2/\GK tb i.1=true/\Vi i.2.1=true/\mu i.2.2.d=false/\lV P kt (fun x v=>∃m,fW K i.1 m x v) (qw tb i.1):=by
 unfold Ap at h
 obtain⟨ti,hti,h⟩:=ae.1 h
 split at h
 . rename_i kt et kc vc hd hc
   obtain⟨ei,hei,h⟩:=ae.1 h
   split at h
   . rename_i hk
     cases h
     simp only[aq,Bool.not_eq_true']at hk
     have htd:=(hT.ty t ti hti).td
     rw[hd]at htd
     exact⟨kt,et,htd,hei,hk.1,hk.2.1,hk.2.2,hT.mp t ti kt et kc vc hti hd hc hk.1⟩
   . cases h
 . cases h
theorem Am{c:Co}(hc:∀i,c≠ .st i){x:T S c}{v:Value}:fW K c m x v↔RK K c m x [v]:=by
 cases c<;>first|exact Iff.rfl|exact absurd rfl (hc _)
theorem sK{c:Co}{a:AV S}{cs:List (CV S)}{x:T S c}{v:Value}(h1:xA c a=some cs)(h2:Kj tb c cs=some x)(hv:cn K g m a v):fW K c m x v:=by
 by_cases hs:∃i,c=.st i
 . obtain⟨i,rfl⟩:=hs;cases a<;>simp only[xA]at h1
   . cases h1
   . cases h1;simp only[cn]at hv;obtain⟨us,rfl,hv⟩:=hv;exact⟨us,rfl,CP h2 hv⟩
   . cases h1
 . have hc:∀i,c≠ .st i:=fun i e=>hs ⟨i,e⟩
   rw[Am hc]
   cases a with
   |one u=>
    have:xA c (.one u)=some [u]:=by cases c<;>first|rfl|exact absurd rfl (hc _)
    rw[this]at h1;cases h1
    simp only[cn]at hv
    exact CP h2 (qI hv)
   |agg us=>cases c<;>simp[xA]at h1;exact absurd rfl (hc _)
   |mj us=>cases c<;>simp[xA]at h1
theorem Hl{c:Co}(h:Vi c=true):∀i,c≠ .st i:=fun i e=>by subst e;cases h
theorem AW{c:Co}(h:Vi c=true):Pq c=true:=by cases c<;>first|rfl|cases h
theorem Ho(hT:gj P K tt){et:TypeId}{ei:TI S}(hei:tt et=some ei)(hA:mu ei.d=false){c:Co}{z:T S c}(hz:Kj tb c ei.zero=some z){w:World}:RK K c m z [zeroOf ei]/\(zeroValue et).run P w=.ok (zeroOf ei) w:=by
 have hty:=hT.ty et ei hei;have h1:(qG ei.zero).length=1:=by rw[hty.len,hty.one hA]
 have h2:qG ei.zero=[zeroOf ei]:=by
  unfold zeroOf;rw[hA]
  match hq:qG ei.zero,h1 with
  |[u],_=>rfl
 refine⟨by rw[<- h2];exact CP (g:=⟨fun _=>none,fun _=>none,fun _=>none⟩) hz (ui hty.cst),Mi ?_⟩;obtain⟨inf,j1,j2,_⟩:=info_parts hty.info;simp[j1,j2]
theorem Tr(hT:gj P K tt){t:TypeId}(ho:o.op=.makeMap t none){i:Co×Co×TI S}(hi:Ap tb tt t=some i)(h:k {v:=.one (.mp (ct+1)),add:=[(ct+1,.map t i.1 i.2.1 [] none)]}=some r):ji P K o [] ob ct k r:=by
 refine⟨_,h,by simp,fun g a m Lr Lm hf _ ha hr hm hO=>?_⟩;simp only[pick,lv]at hr hm;subst hr;subst hm;refine IC (Ke.nil a) (St.refl (Ow.nil m)) ho fun m' b hle hS=>?_
 have hg:=GG.nX (x:=⟨some b,none,0,0,default⟩) (hf (ct+1) (by omega) (by omega)).1;refine⟨m',g.qW (ct+1) ⟨some b,none,0,0,default⟩,[.obj b (.map #[] 0)],rfl,by simpa using hS,hg,rfl,rfl,GG.ld,⟨_,[],rfl,⟨_,b,#[],0,GG.ey,rfl,rfl,sS.nil,trivial⟩,rfl⟩,?_⟩;simp only[cn,b7];exact⟨_,b,GG.ey,rfl,rfl⟩
theorem Aq{q ver b:Nat}{gh:Gh}{t:TypeId}{kc vc:Co}{l:List (T S kc×T S vc)}{hole:Option (T S kc×Nat)}{L:List cp}(hr:lv K g m (pick ob [q]) L)(hq:look q ob=some (ver,.map t kc vc l hole))(hO:Ow m L)(k1:g.bk q=some gh)(k2:gh.g=some b):
 ∃es clock,L=[.obj b (.map es clock)]/\m.w.heap[b]?=some (.map es clock)/\sS (fW K kc m) (fun y v=>RK K vc m y [v]) es clock l/\TM K g m kc es hole:=by
 obtain⟨e,rfl,_,hob⟩:=gG hr hq
 obtain⟨gh',b',es,clock,j1,j2,rfl,j4,j5⟩:=hob
 rw[k1]at j1;have e1:=ar j1;subst e1
 rw[k2]at j2;have e2:=ar j2;subst e2
 exact⟨es,clock,rfl,hO.ok _ ax,j4,j5⟩
theorem DC{q ver b q0:Nat}{gh:Gh}{t:TypeId}{kc vc:Co}{l:List (T S kc×T S vc)}{hole:Option (T S kc×Nat)}{L:List cp}(hr:lv K g m (pick ob [q]) L)(hq:look q ob=some (ver,.sL t kc vc l hole q0))(hO:Ow m L)(k1:g.bk q=some gh)(k2:gh.g=some b):
 ∃es gq,L=[.obj b (.map es gq.n)]/\m.w.heap[b]?=some (.map es gq.n)/\sS (fW K kc m) (fun y v=>RK K vc m y [v]) es gq.n l/\TM K g m kc es hole/\g.bk q0=some gq/\gq.cap=b/\es.toList.map (fun e=>(e.key,e.born))=gq.sk:=by
 obtain⟨e,rfl,_,hob⟩:=gG hr hq
 obtain⟨gh',b',es,gq,j1,j2,j3,j4,rfl,j5,j6,j7⟩:=hob
 rw[k1]at j1;have e1:=ar j1;subst e1
 rw[k2]at j2;have e2:=ar j2;subst e2
 exact⟨es,gq,rfl,hO.ok _ ax,j5,j6,j3,j4,j7⟩
theorem Wx(hT:gj P K tt){t:TypeId}{x y:Operand}{c:Bool}(ho:o.op=.lookup t x y c){v:CV S}{key:AV S}(h:NN tb tt t v key c ob k=some r):ji P K o [.one v,key] ob ct k r:=by
 have hox:o.op.operands.toList=[x,y]:=by rw[ho];rfl
 unfold NN at h;obtain⟨⟨i1,i2,ei⟩,hi,h1⟩:=ae.1 h;simp only at h1;obtain⟨cs,hcs,h2⟩:=ae.1 h1;obtain⟨xk,hxk,h3⟩:=ae.1 h2;obtain⟨z,hz,h4⟩:=ae.1 h3;obtain⟨kt,et,hu,hei,hkc,hvc,hA,HK⟩:=yH hT hi;simp only at hei hkc hvc hA HK;split at h4
 . rename_i q;obtain⟨⟨ver,ao⟩,hq,h5⟩:=ae.1 h4;split at h5
   . rename_i t' kc vc l hao;simp only at hao;subst hao;split at h5
     . rename_i hk hv he q1 q2;clear h h1 h2 h3 h4;cases hk;cases hv;refine⟨_,h5,by simp,fun g a m Lr Lm hf _ ha hr hm hO=>?_⟩;simp only[pick,lv]at hm;subst hm;rw[hox]at ha;obtain⟨hv,hw⟩:=jz ha;simp only[cn,b7]at hv;obtain⟨gh,b,k1,k2,k3⟩:=hv;have hx:a.eval x=.map (some b):=by simpa using k3
       obtain⟨es,clock,rfl,hb,hM,_⟩:=Aq hr hq (by simpa using hO) k1 k2;obtain⟨hz1,hz2⟩:=Ho hT hei hA hz (m:=m) (w:=m.w);obtain⟨u,hu1,hu2⟩:=CU HK hu hz2 hb (hM.mono (fun x v h=>(⟨m,h⟩:∃m,fW K i1 m x v)) fun _ _ h=>h) ⟨m,sK hcs hxk hw⟩ c;have hval:RK K i2 m ((dT (qw tb i1) l xk).getD z) [u]:=by
        cases hm:dT (qw tb i1) l xk with
        |none=>rw[hm]at hu1;subst hu1;exact hz1
        |some y=>rw[hm]at hu1;exact hu1
       have hrun:(execOp a.eval o).run P m.w=.ok (.value (if c then .tuple #[u,.bool (dT (qw tb i1) l xk).isSome]else u)) m.w:=by
        simp[execOp,ho,hx,hu2]
       refine bU.val hrun (I4.pure rfl (by simpa using hO) ?_);have hone:=toCV_ok (g:=g) (AW hvc) hval;unfold Pn;cases c
       . simp only[cn,qj];exact hone
       . simp only[cn,qj];exact⟨_,rfl,_,_,rfl,by simp only[cn];exact hone,_,_,rfl,by simp only[cn,boB,b7],rfl⟩
     . cases h5
   . rename_i t' kc vc l q0 hao;simp only at hao;subst hao;split at h5
     . rename_i hk hv he q1 q2;clear h h1 h2 h3 h4;cases hk;cases hv;refine⟨_,h5,by simp,fun g a m Lr Lm hf _ ha hr hm hO=>?_⟩;simp only[pick,lv]at hm;subst hm;rw[hox]at ha;obtain⟨hv,hw⟩:=jz ha;simp only[cn,b7]at hv;obtain⟨gh,b,k1,k2,k3⟩:=hv;have hx:a.eval x=.map (some b):=by simpa using k3
       obtain⟨es,gq,rfl,hb,hM,_⟩:=DC hr hq (by simpa using hO) k1 k2;obtain⟨hz1,hz2⟩:=Ho hT hei hA hz (m:=m) (w:=m.w);obtain⟨u,hu1,hu2⟩:=CU HK hu hz2 hb (hM.mono (fun x v h=>(⟨m,h⟩:∃m,fW K i1 m x v)) fun _ _ h=>h) ⟨m,sK hcs hxk hw⟩ c;have hval:RK K i2 m ((dT (qw tb i1) l xk).getD z) [u]:=by
        cases hm:dT (qw tb i1) l xk with
        |none=>rw[hm]at hu1;subst hu1;exact hz1
        |some y=>rw[hm]at hu1;exact hu1
       have hrun:(execOp a.eval o).run P m.w=.ok (.value (if c then .tuple #[u,.bool (dT (qw tb i1) l xk).isSome]else u)) m.w:=by
        simp[execOp,ho,hx,hu2]
       refine bU.val hrun (I4.pure rfl (by simpa using hO) ?_);have hone:=toCV_ok (g:=g) (AW hvc) hval;unfold Pn;cases c
       . simp only[cn,qj];exact hone
       . simp only[cn,qj];exact⟨_,rfl,_,_,rfl,by simp only[cn];exact hone,_,_,rfl,by simp only[cn,boB,b7],rfl⟩
     . cases h5
   . cases h5
 . cases h4
theorem O5{q b:Nat}{gh:Gh}{t:TypeId}{kc vc:Co}{l:List (T S kc×T S vc)}{es es':Array MapEntry}{clock clock':Nat}{v:AV S}{u:Value}(h1:g.bk q=some gh)(h2:gh.g=some b)(hO:Ow m [cp.obj b (.map es clock)])
 (hM:sS (fW K kc m) (fun y v=>RK K vc m y [v]) es' clock' l) (hv:cn K g m v u):
 I4 K g m ct [] [cp.obj b (.map es clock)] {v:=v,rm:=[q],add:=[(q,.map t kc vc l none)]} u (setBlock m.w b (.map es' clock')):=by
 have hb:m.w.heap[b]?=some (.map es clock):=hO.ok _ ax
 have hw:m.w.grownBy (setBlock m.w b (.map es' clock')) (some b):=⟨rfl,rfl,rfl,by simp[setBlock],fun i _ hi=>heap_setBlock_other hb _ (fun e=>hi (by rw[e]))⟩
 have hS:=(St.refl hO).vA hw (by simp[setBlock]) (heap_setBlock_same hb (.map es' clock'))
 have hle:=hS.le
 refine⟨_,g,[.obj b (.map es' clock')],rfl,by simpa using hS,GE.refl g,rfl,rfl,fun i h=>absurd rfl h,⟨_,[],rfl,⟨gh,b,es',clock',h1,h2,rfl,?_,trivial⟩,rfl⟩,hv.mono (GE.refl g) hle⟩
 exact hM.mono (fun _ _ h=>fW.mono K hle h) fun y _ h=>(dY K vc).mono h hle
theorem Qx{q b q0:Nat}{gh gq:Gh}{t:TypeId}{kc vc:Co}{l:List (T S kc×T S vc)}{es es':Array MapEntry}{v:AV S}{u:Value}(h1:g.bk q=some gh)(h2:gh.g=some b)(h3:g.bk q0=some gq)(h4:gq.cap=b)(hO:Ow m [cp.obj b (.map es gq.n)])
 (hM:sS (fW K kc m) (fun y v=>RK K vc m y [v]) es' gq.n l) (hs:es'.toList.map (fun e=>(e.key,e.born))=gq.sk) (hv:cn K g m v u):
 I4 K g m ct [] [cp.obj b (.map es gq.n)] {v:=v,rm:=[q],add:=[(q,.sL t kc vc l none q0)]} u (setBlock m.w b (.map es' gq.n)):=by
 have hb:m.w.heap[b]?=some (.map es gq.n):=hO.ok _ ax
 have hw:m.w.grownBy (setBlock m.w b (.map es' gq.n)) (some b):=⟨rfl,rfl,rfl,by simp[setBlock],fun i _ hi=>heap_setBlock_other hb _ (fun e=>hi (by rw[e]))⟩
 have hS:=(St.refl hO).vA hw (by simp[setBlock]) (heap_setBlock_same hb (.map es' gq.n))
 have hle:=hS.le
 refine⟨_,g,[.obj b (.map es' gq.n)],rfl,by simpa using hS,GE.refl g,rfl,rfl,fun i h=>absurd rfl h,⟨_,[],rfl,⟨gh,b,es',gq,h1,h2,h3,h4,rfl,?_,trivial,hs⟩,rfl⟩,hv.mono (GE.refl g) hle⟩
 exact hM.mono (fun _ _ h=>fW.mono K hle h) fun y _ h=>(dY K vc).mono h hle
theorem Pz(hT:gj P K tt){t:TypeId}{x y z:Operand}(ho:o.op=.mapUpdate t x y z){v:CV S}{key w:AV S}(h:WD tb tt t v key w ob k=some r):ji P K o [.one v,key,w] ob ct k r:=by
 have hox:o.op.operands.toList=[x,y,z]:=by rw[ho];rfl
 unfold WD at h;obtain⟨⟨i1,i2,ei⟩,hi,h1⟩:=ae.1 h;simp only at h1;obtain⟨cs,hcs,h2⟩:=ae.1 h1;obtain⟨xk,hxk,h3⟩:=ae.1 h2;obtain⟨ws,hws,h3⟩:=ae.1 h3;obtain⟨yv,hyv,h4⟩:=ae.1 h3;obtain⟨kt,et,hu,hei,hkc,hvc,hA,HK⟩:=yH hT hi;simp only at hei hkc hvc hA HK;split at h4
 . rename_i q;obtain⟨⟨ver,ao⟩,hq,h5⟩:=ae.1 h4;split at h5
   . rename_i t' kc vc l hao;simp only at hao;subst hao;split at h5
     . rename_i hk hv he q1 q2;clear h h1 h2 h3 h4;cases hk;cases hv;refine⟨_,h5,by simp,fun g a m Lr Lm hf _ ha hr hm hO=>?_⟩;simp only[pick,lv]at hr;subst hr;rw[hox]at ha;obtain⟨hv,hw,hy⟩:=CM ha;simp only[cn,b7]at hv;obtain⟨gh,b,k1,k2,k3⟩:=hv;have hx:a.eval x=.map (some b):=by simpa using k3
       obtain⟨es,clock,rfl,hb,hM,_⟩:=Aq hm hq (by simpa using hO) k1 k2;have hyR:RK K i2 m yv [a.eval z]:=(Am (Hl hvc)).1 (sK hws hyv hy);have hkR:=sK hcs hxk hw;have hH:lV P kt (fW K i1 m) (qw tb i1):=HK.sub fun x v h=>⟨m,h⟩
       obtain⟨es',clock',hrun,hM',_⟩:=Kl hH hu hb hM hkR hyR;have hrun':(execOp a.eval o).run P m.w=.ok .skip (setBlock m.w b (.map es' clock')):=by
        simp[execOp,ho,hx,hrun]
       unfold bU;rw[hrun'];exact(O5 k1 k2 (by simpa using hO) hM' (by simp[AV.uI,cn,fO,undef]))
     . cases h5
   . rename_i t' kc vc l q0 hao;simp only at hao;subst hao;split at h5
     . rename_i hk hv he q1 q2;cases hk;cases hv;obtain⟨_,hck,h5⟩:=ae.1 h5;have hck:(dT (qw tb i1) l xk).isSome=true:=by
        unfold m8 at hck;split at hck
        . rename_i hc;exact hc
        . cases hck
       clear h h1 h2 h3 h4;refine⟨_,h5,by simp,fun g a m Lr Lm hf _ ha hr hm hO=>?_⟩;simp only[pick,lv]at hr;subst hr;rw[hox]at ha;obtain⟨hv,hw,hy⟩:=CM ha;simp only[cn,b7]at hv;obtain⟨gh,b,k1,k2,k3⟩:=hv;have hx:a.eval x=.map (some b):=by simpa using k3
       obtain⟨es,gq,rfl,hb,hM,_,g3,g4,g5⟩:=DC hm hq (by simpa using hO) k1 k2;have hyR:RK K i2 m yv [a.eval z]:=(Am (Hl hvc)).1 (sK hws hyv hy);have hkR:=sK hcs hxk hw;have hH:lV P kt (fW K i1 m) (qw tb i1):=HK.sub fun x v h=>⟨m,h⟩
       obtain⟨es',clock',hrun,hM',hsame⟩:=Kl hH hu hb hM hkR hyR;have hany:(l.any fun p=>qw tb i1 xk p.1)=true:=by
        cases hb:l.any fun p=>qw tb i1 xk p.1 with
        |true=>rfl
        |false=>
         have:(l.find? fun p=>qw tb i1 xk p.1)=none:=List.find?_eq_none.2 fun p hp=>by
          have:=List.any_eq_false.1 hb p hp;simpa using this
         unfold dT at hck
         rw[this]at hck;cases hck
       obtain⟨rfl,hsk⟩:=hsame hany;have hrun':(execOp a.eval o).run P m.w=.ok .skip (setBlock m.w b (.map es' gq.n)):=by
        simp[execOp,ho,hx,hrun]
       unfold bU;rw[hrun'];exact(Qx k1 k2 g3 g4 (by simpa using hO) hM' (hsk.trans g5) (by simp[AV.uI,cn,fO,undef]))
     . cases h5
   . cases h5
 . cases h4
theorem wQ{w:World}{b clock:Nat}{es:Array MapEntry}(hb:w.heap[b]?=some (.map es clock))(q':Obj):w.grownBy (setBlock w b q') (some b):=
 ⟨rfl,rfl,rfl,by simp[setBlock],fun i _ hi=>heap_setBlock_other hb _ (fun e=>hi (by rw[e]))⟩
theorem Rh(hT:gj P K tt){t:TypeId}{x y:Operand}(ho:o.op=.mapEntry t x y){v:CV S}{key:AV S}(h:NS tb tt t v key ob ct k=some r):ji P K o [.one v,key] ob ct k r:=by
 have hox:o.op.operands.toList=[x,y]:=by rw[ho];rfl
 unfold NS at h;obtain⟨⟨i1,i2,ei⟩,hi,h1⟩:=ae.1 h;simp only at h1;obtain⟨cs,hcs,h2⟩:=ae.1 h1;obtain⟨xk,hxk,h3⟩:=ae.1 h2;obtain⟨z,hz,h4⟩:=ae.1 h3;obtain⟨kt,et,hu,hei,hkc,hvc,hA,HK⟩:=yH hT hi;simp only at hei hkc hvc hA HK;split at h4
 . rename_i q;obtain⟨⟨ver,ao⟩,hq,h5⟩:=ae.1 h4;split at h5
   . rename_i t' kc vc l hao;simp only at hao;subst hao;split at h5
     . rename_i hk hv he q1 q2;clear h h1 h2 h3 h4;cases hk;cases hv;refine⟨_,h5,by simp,fun g a m Lr Lm hf _ ha hr hm hO=>?_⟩;simp only[pick,lv]at hr;subst hr;rw[hox]at ha;obtain⟨hv,hw⟩:=jz ha;simp only[cn,b7]at hv;obtain⟨gh,b,k1,k2,k3⟩:=hv;have hx:a.eval x=.map (some b):=by simpa using k3
       obtain⟨es,clock,rfl,hb,hM,_⟩:=Aq hm hq (by simpa using hO) k1 k2;have hO':Ow m [cp.obj b (.map es clock)]:=by simpa using hO
       obtain⟨hz1,hz2⟩:=Ho hT hei hA hz (m:=m) (w:=m.w);have hkR:=sK hcs hxk hw;have hH:lV P kt (fW K i1 m) (qw tb i1):=HK.sub fun x v h=>⟨m,h⟩
       rcases RE hH hu hz2 hb hM hkR with⟨j,e0,p,hj,hlj,hen,hke,hany,hfind,hrun⟩|⟨hany,hfind,hno,hrun⟩
       . have hrun':(execOp a.eval o).run P m.w=.ok (.value (.tuple #[e0.val,.int .i64 (e0.born:Int)])) (setBlock m.w b (.map es clock)):=by
          simp[execOp,ho,hx,hrun]
         unfold bU;rw[hrun'];have hS:=(St.refl hO').vA (wQ hb (.map es clock)) (by simp[setBlock]) (heap_setBlock_same hb (.map es clock));have hg:=GG.nX (x:=⟨none,none,0,e0.born,default⟩) (hf (ct+1) (by omega) (by omega)).1;refine⟨_,g.qW (ct+1) ⟨none,none,0,e0.born,default⟩,[.obj b (.map es clock)],rfl,by simpa using hS,hg,rfl,rfl,GG.ld,⟨_,[],rfl,⟨gh,b,es,clock,hg.bk _ _ k1,k2,rfl,?_,⟨j,e0,_,hj,?_,GG.ey,rfl⟩⟩,rfl⟩,?_⟩
         . have:Tf (qw tb i1) l xk z=l:=by unfold Tf;rw[if_pos hany]
           show sS _ _ es clock (Tf (qw tb i1) l xk z);rw[this];exact hM.mono (fun _ _ h=>fW.mono K hS.le h) fun y _ h=>(dY K i2).mono h hS.le
         . rw[hke];exact fW.mono K hS.le hkR
         . simp only[cn,qj];refine⟨_,rfl,_,_,rfl,?_,_,_,rfl,?_,rfl⟩
           . simp only[cn];have:dT (qw tb i1) l xk=some p.2:=by unfold dT;rw[hfind];rfl
             rw[this];exact toCV_ok (AW hvc) ((dY K i2).mono hen.2 hS.le)
           . simp only[cn,b7];exact⟨_,GG.ey,rfl⟩
       . have hrun':(execOp a.eval o).run P m.w=.ok (.value (.tuple #[zeroOf ei,.int .i64 (clock:Int)])) (setBlock m.w b (.map (es.push ⟨a.eval y,zeroOf ei,clock⟩) (clock+1))):=by
          simp[execOp,ho,hx,hrun]
         unfold bU;rw[hrun'];have hS:=(St.refl hO').vA (wQ hb (.map (es.push ⟨a.eval y,zeroOf ei,clock⟩) (clock+1))) (by simp[setBlock]) (heap_setBlock_same hb (.map (es.push ⟨a.eval y,zeroOf ei,clock⟩) (clock+1)));have hg:=GG.nX (x:=⟨none,none,0,clock,default⟩) (hf (ct+1) (by omega) (by omega)).1;refine⟨_,g.qW (ct+1) ⟨none,none,0,clock,default⟩,[.obj b (.map (es.push ⟨a.eval y,zeroOf ei,clock⟩) (clock+1))],rfl,by simpa using hS,hg,rfl,rfl,GG.ld,⟨_,[],rfl,⟨gh,b,_,_,hg.bk _ _ k1,k2,rfl,?_,⟨es.toList.length,⟨a.eval y,zeroOf ei,clock⟩,_,?_,fW.mono K hS.le hkR,GG.ey,rfl⟩⟩,rfl⟩,?_⟩
         . have:Tf (qw tb i1) l xk z=l++[(xk,z)]:=by unfold Tf;rw[if_neg (by rw[hany];simp)]
           show sS _ _ _ _ (Tf (qw tb i1) l xk z);rw[this];refine sS.mono (fun _ _ h=>fW.mono K hS.le h) (fun y _ h=>(dY K i2).mono h hS.le) ⟨MapKept.stamped_push hM.st hno,?_⟩;rw[Array.toList_push];exact hM.EA.app ⟨hkR,hz1⟩
         . rw[Array.toList_push,List.getElem?_append_right (Nat.le_refl _),Nat.sub_self];rfl
         . simp only[cn,qj];refine⟨_,rfl,_,_,rfl,?_,_,_,rfl,?_,rfl⟩
           . simp only[cn];have:dT (qw tb i1) l xk=none:=by unfold dT;rw[hfind];rfl
             rw[this];exact toCV_ok (AW hvc) ((dY K i2).mono hz1 hS.le)
           . simp only[cn,b7];exact⟨_,GG.ey,rfl⟩
     . cases h5
   . rename_i t' kc vc l q0 hao;simp only at hao;subst hao;split at h5
     . rename_i hk hv he q1 q2;cases hk;cases hv;obtain⟨_,hck,h5⟩:=ae.1 h5;have hck:(dT (qw tb i1) l xk).isSome=true:=by
        unfold m8 at hck;split at hck
        . rename_i hc;exact hc
        . cases hck
       clear h h1 h2 h3 h4;refine⟨_,h5,by simp,fun g a m Lr Lm hf _ ha hr hm hO=>?_⟩;simp only[pick,lv]at hr;subst hr;rw[hox]at ha;obtain⟨hv,hw⟩:=jz ha;simp only[cn,b7]at hv;obtain⟨gh,b,k1,k2,k3⟩:=hv;have hx:a.eval x=.map (some b):=by simpa using k3
       obtain⟨es,gq,rfl,hb,hM,_,g3,g4,g5⟩:=DC hm hq (by simpa using hO) k1 k2;have hO':Ow m [cp.obj b (.map es gq.n)]:=by simpa using hO
       obtain⟨hz1,hz2⟩:=Ho hT hei hA hz (m:=m) (w:=m.w);have hkR:=sK hcs hxk hw;have hH:lV P kt (fW K i1 m) (qw tb i1):=HK.sub fun x v h=>⟨m,h⟩
       rcases RE hH hu hz2 hb hM hkR with⟨j,e0,p,hj,hlj,hen,hke,hany,hfind,hrun⟩|⟨hany,hfind,hno,hrun⟩
       . have hrun':(execOp a.eval o).run P m.w=.ok (.value (.tuple #[e0.val,.int .i64 (e0.born:Int)])) (setBlock m.w b (.map es gq.n)):=by
          simp[execOp,ho,hx,hrun]
         unfold bU;rw[hrun'];have hS:=(St.refl hO').vA (wQ hb (.map es gq.n)) (by simp[setBlock]) (heap_setBlock_same hb (.map es gq.n));have hg:=GG.nX (x:=⟨none,none,0,e0.born,default⟩) (hf (ct+1) (by omega) (by omega)).1;refine⟨_,g.qW (ct+1) ⟨none,none,0,e0.born,default⟩,[.obj b (.map es gq.n)],rfl,by simpa using hS,hg,rfl,rfl,GG.ld,⟨_,[],rfl,⟨gh,b,es,gq,hg.bk _ _ k1,k2,hg.bk _ _ g3,g4,rfl,?_,⟨j,e0,_,hj,?_,GG.ey,rfl⟩,g5⟩,rfl⟩,?_⟩
         . exact hM.mono (fun _ _ h=>fW.mono K hS.le h) fun y _ h=>(dY K i2).mono h hS.le
         . rw[hke];exact fW.mono K hS.le hkR
         . simp only[cn,qj];refine⟨_,rfl,_,_,rfl,?_,_,_,rfl,?_,rfl⟩
           . simp only[cn];have:dT (qw tb i1) l xk=some p.2:=by unfold dT;rw[hfind];rfl
             rw[this];exact toCV_ok (AW hvc) ((dY K i2).mono hen.2 hS.le)
           . simp only[cn,b7];exact⟨_,GG.ey,rfl⟩
       . exfalso;unfold dT at hck;rw[hfind]at hck;cases hck
     . cases h5
   . cases h5
 . cases h4
theorem MY(hT:gj P K tt){t:TypeId}{x y z:Operand}(ho:o.op=.entryStore t x y z){v s:CV S}{w:AV S}(h:V0 tb tt t v s w ob k=some r):ji P K o [.one v,.one s,w] ob ct k r:=by
 have hox:o.op.operands.toList=[x,y,z]:=by rw[ho];rfl
 unfold V0 at h;obtain⟨⟨i1,i2,ei⟩,hi,h1⟩:=ae.1 h;simp only at h1;obtain⟨ws,hws,h2⟩:=ae.1 h1;obtain⟨yv,hyv,h3⟩:=ae.1 h2;obtain⟨kt,et,hu,hei,hkc,hvc,hA,HK⟩:=yH hT hi;simp only at hei hkc hvc hA HK;split at h3
 . rename_i q q' sq;split at h3
   . obtain⟨⟨ver,ao⟩,hq,h4⟩:=ae.1 h3;split at h4
     . rename_i t' kc vc l xk sq' hao;simp only at hao;subst hao;split at h4
       . rename_i hk hv he q1 q2;clear h h1 h2 h3;cases hk;cases hv;simp only[aq]at he;have he2:=ah he.2;subst he2;refine⟨_,h4,by simp,fun g a m Lr Lm hf _ ha hr hm hO=>?_⟩;simp only[pick,lv]at hr;subst hr;rw[hox]at ha;obtain⟨hv,hs,hy⟩:=CM ha;simp only[cn,b7]at hv hs;obtain⟨gh,b,k1,k2,k3⟩:=hv;obtain⟨ghs,s1,s2⟩:=hs;have hx:a.eval x=.map (some b):=by simpa using k3
         have hsy:a.eval y=.int .i64 (ghs.n:Int):=by simpa using s2
         obtain⟨es,clock,rfl,hb,hM,j,e0,ghq,hj,hkR,hgq,hgn⟩:=Aq hm hq (by simpa using hO) k1 k2;rw[s1]at hgq;have r3:=ar hgq;subst r3;have hyR:RK K i2 m yv [a.eval z]:=(Am (Hl hvc)).1 (sK hws hyv hy);have hH:lV P kt (fW K i1 m) (qw tb i1):=HK.sub fun x v h=>⟨m,h⟩
         have hst:=(MapKept.stamped_iff es clock).1 hM.st;obtain⟨pp,c1,c2,c3,c4,c5,c6⟩:=any_some hH hkR hM.EA hst.2.2 hj rfl;have hrun:=U3 (P:=P) (t:=t) (val:=a.eval z) hM.st hj hb;rw[<- hgn,<- hsy]at hrun;have hrun':(execOp a.eval o).run P m.w=.ok .skip (setBlock m.w b (.map (es.modify j fun e=>{e with val:=a.eval z}) clock)):=by
          simp[execOp,ho,hx,hrun]
         unfold bU;rw[hrun'];have hmp:lP (qw tb i1) l xk yv=l.set j (xk,yv):=by
          unfold lP;rw[if_pos c3,c5]
         have hM':sS (fW K i1 m) (fun y v=>RK K i2 m y [v]) (es.modify j fun e=>{e with val:=a.eval z}) clock (lP (qw tb i1) l xk yv):=by
          rw[hmp];refine⟨MapKept.stamped_modify hM.st _ _ (fun _ _=>rfl) (fun _ _ _=>rfl),?_⟩;rw[Array.toList_modify,ChangeMaps.modify_eq_set _ _ _ _ hj];exact hM.EA.set ⟨hkR,hyR⟩ j
         exact(O5 k1 k2 (by simpa using hO) hM' (by simp[AV.uI,cn,fO,undef]))
       . cases h4
     . rename_i t' kc vc l xk sq' q0 hao;simp only at hao;subst hao;split at h4
       . rename_i hk hv he q1 q2;clear h h1 h2 h3;cases hk;cases hv;simp only[aq]at he;have he2:=ah he.2;subst he2;refine⟨_,h4,by simp,fun g a m Lr Lm hf _ ha hr hm hO=>?_⟩;simp only[pick,lv]at hr;subst hr;rw[hox]at ha;obtain⟨hv,hs,hy⟩:=CM ha;simp only[cn,b7]at hv hs;obtain⟨gh,b,k1,k2,k3⟩:=hv;obtain⟨ghs,s1,s2⟩:=hs;have hx:a.eval x=.map (some b):=by simpa using k3
         have hsy:a.eval y=.int .i64 (ghs.n:Int):=by simpa using s2
         obtain⟨es,gq,rfl,hb,hM,⟨j,e0,ghq,hj,hkR,hgq,hgn⟩,g3,g4,g5⟩:=DC hm hq (by simpa using hO) k1 k2;rw[s1]at hgq;have r3:=ar hgq;subst r3;have hyR:RK K i2 m yv [a.eval z]:=(Am (Hl hvc)).1 (sK hws hyv hy);have hH:lV P kt (fW K i1 m) (qw tb i1):=HK.sub fun x v h=>⟨m,h⟩
         have hst:=(MapKept.stamped_iff es gq.n).1 hM.st;obtain⟨pp,c1,c2,c3,c4,c5,c6⟩:=any_some hH hkR hM.EA hst.2.2 hj rfl;have hrun:=U3 (P:=P) (t:=t) (val:=a.eval z) hM.st hj hb;rw[<- hgn,<- hsy]at hrun;have hrun':(execOp a.eval o).run P m.w=.ok .skip (setBlock m.w b (.map (es.modify j fun e=>{e with val:=a.eval z}) gq.n)):=by
          simp[execOp,ho,hx,hrun]
         unfold bU;rw[hrun'];have hmp:lP (qw tb i1) l xk yv=l.set j (xk,yv):=by
          unfold lP;rw[if_pos c3,c5]
         have hM':sS (fW K i1 m) (fun y v=>RK K i2 m y [v]) (es.modify j fun e=>{e with val:=a.eval z}) gq.n (lP (qw tb i1) l xk yv):=by
          rw[hmp];refine⟨MapKept.stamped_modify hM.st _ _ (fun _ _=>rfl) (fun _ _ _=>rfl),?_⟩;rw[Array.toList_modify,ChangeMaps.modify_eq_set _ _ _ _ hj];exact hM.EA.set ⟨hkR,hyR⟩ j
         exact(Qx k1 k2 g3 g4 (by simpa using hO) hM' (by
          rw[<- g5,Array.toList_modify,ChangeMaps.modify_eq_set _ _ _ _ hj,List.map_set];refine List.ext_getElem? fun i=>?_
          rw[List.getElem?_set];split
          . rename_i e;subst e;rw[List.getElem?_map,hj,aJ,if_pos (List.getElem?_eq_some_iff.1 hj).1];rfl
          . rfl) (by simp[AV.uI,cn,fO,undef]))
       . cases h4
     . cases h4
   . cases h3
 . cases h3
theorem Ww(hT:gj P K tt){t kt':TypeId}{x y:Operand}(ho:o.op=.call ⟨.builtin .delete,#[x,y],#[t,kt']⟩){v:CV S}{key:AV S}(h:VV tb tt t v key ob k=some r):ji P K o [.one v,key] ob ct k r:=by
 have hox:o.op.operands.toList=[x,y]:=by rw[ho];rfl
 unfold VV at h;obtain⟨⟨i1,i2,ei⟩,hi,h1⟩:=ae.1 h;simp only at h1;obtain⟨cs,hcs,h2⟩:=ae.1 h1;obtain⟨xk,hxk,h4⟩:=ae.1 h2;obtain⟨kt,et,hu,hei,hkc,hvc,hA,HK⟩:=yH hT hi;simp only at hei hkc hvc hA HK;split at h4
 . rename_i q;obtain⟨⟨ver,ao⟩,hq,h5⟩:=ae.1 h4;split at h5
   . rename_i t' kc vc l hao;simp only at hao;subst hao;split at h5
     . rename_i hk hv he q1 q2;clear h h1 h2 h4;cases hk;cases hv;refine⟨_,h5,by simp,fun g a m Lr Lm hf _ ha hr hm hO=>?_⟩;simp only[pick,lv]at hr;subst hr;rw[hox]at ha;obtain⟨hv,hw⟩:=jz ha;simp only[cn,b7]at hv;obtain⟨gh,b,k1,k2,k3⟩:=hv;have hx:a.eval x=.map (some b):=by simpa using k3
       obtain⟨es,clock,rfl,hb,hM,_⟩:=Aq hm hq (by simpa using hO) k1 k2;have hkR:=sK hcs hxk hw;have hH:lV P kt (fW K i1 m) (qw tb i1):=HK.sub fun x v h=>⟨m,h⟩
       obtain⟨es',hrun,hM'⟩:=abz (ty:=o.type) (kt2:=kt') hH hu hb hM hkR;have hrun':(execOp a.eval o).run P m.w=.ok (.value (.tuple #[])) (setBlock m.w b (.map es' clock)):=by
        simp[execOp,ho,resolve,invoke,builtin,hx,hrun]
       unfold bU;rw[hrun'];exact(O5 (v:=.mj []) k1 k2 (by simpa using hO) hM' (by simp only[cn,fO];exact⟨[],rfl,rfl⟩))
     . cases h5
   . cases h5
 . cases h4
theorem YP(hT:gj P K tt){t:TypeId}{x:Operand}(ho:o.op=.range t x){v:CV S}(h:Iv tb tt t v ob ct k=some r):ji P K o [.one v] ob ct k r:=by
 have hox:o.op.operands.toList=[x]:=by rw[ho];rfl
 unfold Iv at h;obtain⟨⟨i1,i2,ei⟩,hi,h4⟩:=ae.1 h;simp only at h4;obtain⟨kt,et,hu,hei,hkc,hvc,hA,HK⟩:=yH hT hi;simp only at hei hkc hvc hA HK;split at h4
 . rename_i q;obtain⟨⟨ver,ao⟩,hq,h5⟩:=ae.1 h4;split at h5
   . rename_i t' kc vc l hao;simp only at hao;subst hao;split at h5
     . rename_i hk hv he q1 q2;clear h h4;cases hk;cases hv;refine⟨_,h5,by simp,fun g a m Lr Lm hf _ ha hr hm hO=>?_⟩;simp only[pick,lv]at hr;subst hr;rw[hox]at ha;have hv:=iU ha;simp only[cn,b7]at hv;obtain⟨gh,b,k1,k2,k3⟩:=hv;have hx:a.eval x=.map (some b):=by simpa using k3
       obtain⟨es,clock,rfl,hb,hM,_⟩:=Aq hm hq (by simpa using hO) k1 k2;have hO':Ow m [cp.obj b (.map es clock)]:=by simpa using hO
       have hrun':(execOp a.eval o).run P m.w=.ok (.value (.pointer (some ⟨m.w.heap.size,0,none⟩))) (m.w.alloc (.mapIter (some b) clock #[] clock)):=by
        simp[execOp,ho,hx,Instr.range,run_underlying hu,MapKept.run_getObj_map hb,Result.andThen]
       unfold bU;rw[hrun'];have hS:=(St.refl hO').new (o:=.mapIter (some b) clock #[] clock) rfl (.obj m.w.heap.size (.mapIter (some b) clock #[] clock)) rfl (jO _ _);have hle:=hS.le;have hg:=GG.nX (x:=⟨some m.w.heap.size,none,b,clock,es.toList.map fun e=>(e.key,e.born)⟩) (hf (ct+1) (by omega) (by omega)).1;refine⟨_,g.qW (ct+1) ⟨some m.w.heap.size,none,b,clock,es.toList.map fun e=>(e.key,e.born)⟩,[.obj b (.map es clock),.obj m.w.heap.size (.mapIter (some b) clock #[] clock)],rfl,by simpa using hS.perm (List.Perm.swap _ _ _),hg,rfl,rfl,GG.ld,
        ⟨_,_,rfl,⟨gh,b,es,_,hg.bk _ _ k1,k2,GG.ey,rfl,rfl,?_,trivial,rfl⟩,_,[],rfl,⟨_,gh,m.w.heap.size,#[],GG.ey,rfl,hg.bk _ _ k1,k2,rfl,rfl⟩,rfl⟩,?_⟩
       . exact hM.mono (fun _ _ h=>fW.mono K hle h) fun y _ h=>(dY K i2).mono h hle
       . simp only[cn,b7];exact⟨_,_,GG.ey,rfl,rfl⟩
     . cases h5
   . cases h5
 . cases h4
theorem Yb{c:Co}{x:T S c}{v:Value}(hc:GK tb c=true)(h:fW K c m x v):cn K g m (UE tb c x) v:=by
 by_cases hs:∃i,c=.st i
 . obtain⟨i,rfl⟩:=hs;obtain⟨cs,rfl,h1⟩:=h;simp only[UE,cn];exact⟨cs,rfl,IZ h1⟩
 . have hn:∀i,c≠ .st i:=fun i e=>hs ⟨i,e⟩
   have h1:=(Am hn).1 h;have e:UE tb c x=.one (toCV c x):=by cases c<;>first|rfl|exact absurd rfl (hn _)
   rw[e];simp only[cn];exact toCV_ok (by cases c<;>first|rfl|exact absurd rfl (hn _)|cases hc) h1
theorem YL(hT:gj P K tt){x:Operand}(ho:o.op=.entry x){v:CV S}(h:H2 tb tt v ob k=some r):ji P K o [.one v] ob ct k r:=by
 have hox:o.op.operands.toList=[x]:=by rw[ho];rfl
 unfold H2 at h;split at h
 . rename_i q;obtain⟨⟨ver,ao⟩,hq,h1⟩:=ae.1 h;split at h1
   . rename_i kc' om xk hao;simp only at hao;subst hao;obtain⟨⟨ver2,ao2⟩,hq2,h2⟩:=ae.1 h1;split at h2
     . rename_i t kc vc l q' hao;simp only at hao;subst hao;obtain⟨⟨i1,i2,ei⟩,hi,h3⟩:=ae.1 h2;obtain⟨z,hz,h4⟩:=ae.1 h3;simp only at h4 hz;obtain⟨kt,et,hu,hei,hkc,hvc,hA,HK⟩:=yH hT hi;simp only at hei hkc hvc hA HK;split at h4
       . rename_i hk0 hk hv he e1 e2 e3;have he:=ah he;subst he;clear h h1 h2 h3 e1 e2 e3;cases hk0;cases hk;cases hv;refine⟨_,h4,by simp,fun g a m Lr Lm hf _ ha hr hm hO=>?_⟩;simp only[pick,lv]at hm;subst hm;rw[hox]at ha;have hv:=iU ha;simp only[cn,b7]at hv;obtain⟨gq,rb,k1,k2,k3⟩:=hv;have hx:a.eval x=.pointer (some ⟨rb,0,none⟩):=by simpa using k3
         simp only[pick,hq,hq2,lv]at hr;obtain⟨e1,L1,rfl,_,Hq,e2,L2,rfl,_,hmp,rfl⟩:=hr;obtain⟨gh,go,rb',seen,j1,j2,j3,j4,rfl,j,p,j5,j6,j7⟩:=Hq;rw[k1]at j1;have r1:=ar j1;subst r1;rw[k2]at j2;have r2:=ar j2;subst r2;obtain⟨gm,b,es,gq',m1,m2,m3,m4,rfl,m5,m6,m7⟩:=hmp;rw[k1]at m3;have r3:=ar m3;subst r3;rw[m1]at j3;have r4:=ar j3;subst r4;rw[m2]at j4;have r5:=ar j4;have hO1:m.w.heap[rb]?=some (.mapIter (some gq.cap) gq.n seen gq.n):=hO.ok (.obj rb (.mapIter (some gq.cap) gq.n seen gq.n)) (by simp);have hO2:m.w.heap[gq.cap]?=some (.map es gq.n):=by rw[<- r5];exact hO.ok (.obj b (.map es gq.n)) (by simp)
         rw[<- m7,List.getElem?_map]at j5;obtain⟨e0,he0,rfl⟩:=af.1 j5;have hst:=(MapKept.stamped_iff es gq.n).1 m5.st;obtain⟨s',rfl⟩:=Array.back?_eq_some_iff.1 j6;have hmem:e0∈es.toList:=List.mem_of_getElem? he0;have hrun:=run_entry_at (P:=P) m.w rb gq.cap gq.n s' es gq.n e0 hO1 hO2 hmem hst.2.1;have hrun':(execOp a.eval o).run P m.w=.ok (.value (.tuple #[e0.key,e0.val])) m.w:=by
          simp[execOp,ho,hx,hrun]
         obtain⟨pp,p1,p2,p3⟩:=m5.EA.at he0;have hH:lV P kt (fW K i1 m) (qw tb i1):=HK.sub fun x v h=>⟨m,h⟩
         obtain⟨p0,c1,c2,c3,c4,_⟩:=any_some hH j7 m5.EA hst.2.2 he0 rfl;rw[p1]at c1;cases c1;have hg:dT (qw tb i1) l xk=some pp.2:=by unfold dT;rw[c4];rfl
         refine bU.val hrun' (I4.pure rfl hO ?_);simp only[qj,Je,hg,Option.getD_some,cn];exact⟨_,rfl,_,_,rfl,Yb hkc j7,_,_,rfl,by simp only[cn];exact toCV_ok (AW hvc) p3,rfl⟩
       . cases h4
     . cases h2
   . cases h1
 . cases h
end E
end
section
open Go.RowKit G
open Go.ChangeMaps (setBlock heap_setBlock_same heap_setBlock_other)
namespace E
variable {S:Nat->Type}{tb:Tb S}{K:ju tb}{P:Program}{o:Oper}{xs:List (AV S)}{ob:List (Nat×Nat×AO S)}{ct:Nat}{γ:Type}{k:sT S->Option γ}{r:γ}{tt:TypeId->Option (TI S)}{g:GG S}{m:Mem}
theorem aa9{l:List (CV S)}(h:adv l=true):l=[.fP]:=by
 unfold adv at h;split at h
 . rfl
 . cases h
theorem YE{l:List (CV S)}(h:YD l=true):l=[.ed]:=by
 unfold YD at h;split at h
 . rfl
 . cases h
theorem R8{t:TypeId}{i:TI S}{v:CV S}{z:Value}(hty:MG P t i)(hA:mu i.d=false)(hz:i.zero=[v])(hv:Dk v=[z])(w:World):(zeroValue t).run P w=.ok z w:=by
 have h0:zeroOf i=z:=by
  unfold zeroOf;rw[hA,hz];simp[qG,hv]
 refine Mi ?_;obtain⟨inf,j1,j2,_⟩:=info_parts hty.info;simp[j1,j2,h0]
theorem H9(hT:gj P K tt){t:TypeId}{i:Co×Co×TypeId}(h:Bb tb tt t=some i):
 ∃kt se,P.underlying t=some (.map kt se)/\oV tt se=some (i.2.2,i.2.1)/\(∀w:World,(zeroValue se).run P w=.ok (.slice none 0 0) w)/\lV P kt (fun x v=>∃m,fW K i.1 m x v) (qw tb i.1):=by
 unfold Bb at h
 obtain⟨ti,hti,h⟩:=ae.1 h
 split at h
 . rename_i kt se kc c hd hc
   obtain⟨si,hsi,h⟩:=ae.1 h
   obtain⟨⟨e1,e2⟩,hec,h⟩:=ae.1 h
   split at h
   . rename_i hq hk _
     simp only at hq
     cases h
     subst hq
     simp only[aq]at hk
     have htd:=(hT.ty t ti hti).td
     rw[hd]at htd
     have hag:mu si.d=false:=by
      unfold oV at hec;rw[hsi,aa]at hec;split at hec
      . rename_i h1 _;rw[h1];rfl
      . cases hec
     exact⟨kt,se,htd,hec,R8 (hT.ty se si hsi) hag (aa9 hk.2) rfl,hT.mp t ti kt se kc _ hti hd hc hk.1⟩
   . cases h
 . cases h
theorem NH(hT:gj P K tt){t:TypeId}{i:Co}(h:Ik tb tt t=some i):
 ∃kt se,P.underlying t=some (.map kt se)/\(∀w:World,(zeroValue se).run P w=.ok .nilFunc w)/\lV P kt (fun x v=>∃m,fW K i m x v) (qw tb i):=by
 unfold Ik at h
 obtain⟨ti,hti,h⟩:=ae.1 h
 split at h
 . rename_i kt se kc n hd hc
   obtain⟨si,hsi,h⟩:=ae.1 h
   split at h
   . rename_i hk
     cases h
     simp only[aq,Bool.not_eq_true']at hk
     have htd:=(hT.ty t ti hti).td
     rw[hd]at htd
     exact⟨kt,se,htd,R8 (hT.ty se si hsi) hk.2.2 (YE hk.2.1) rfl,hT.mp t ti kt se _ _ hti hd hc hk.1⟩
   . cases h
 . cases h
theorem G0{κ ν:Type}{et:TypeId}{sz:Nat}{gh:Gh}{p':κ×(ν×Option Gh)}(hp':p'.2.2=none):∀{ll:List (κ×(ν×Option Gh))} {j:Nat} {p:κ×(ν×Option Gh)},ll[j]?=some p->p.2.2=some gh->
 List.Perm (ll.filterMap (xZ et sz)) (cp.row gh.g et (gh.cap*sz) (gh.n*sz)::(ll.set j p').filterMap (xZ et sz))
 |[],_,_,h,_=>by simp at h
 |p0::ll,0,p,h,hp=>by
  simp at h;subst h;have h1:xZ et sz p0=some (cp.row gh.g et (gh.cap*sz) (gh.n*sz)):=by unfold xZ;rw[hp];rfl
  have h2:xZ et sz p'=none:=by unfold xZ;rw[hp'];rfl
  rw[List.set_cons_zero,List.filterMap_cons_some h1,List.filterMap_cons_none h2]
 |p0::ll,j+1,p,h,hp=>by
  simp at h;have ih:=G0 (et:=et) (sz:=sz) hp' h hp;rw[List.set_cons_succ]
  cases h1:xZ et sz p0 with
  |none=>rw[List.filterMap_cons_none h1,List.filterMap_cons_none h1];exact ih
  |some e=>rw[List.filterMap_cons_some h1,List.filterMap_cons_some h1];exact(ih.cons e).trans (List.Perm.swap _ _ _)
theorem Zu{α:Type}{l:List α}{j:Nat}{x:α}(h:l[j]?=some x)(y:α):(l.set j y).set j x=l:=by
 rw[List.set_set];obtain⟨h1,rfl⟩:=List.getElem?_eq_some_iff.1 h;exact List.set_getElem_self h1
theorem RN{α:Type}{l:List α}{j:Nat}{x:α}(h:l[j]?=some x):l.set j x=l:=by
 obtain⟨h1,rfl⟩:=List.getElem?_eq_some_iff.1 h;exact List.set_getElem_self h1
theorem U1{κ ν:Type}{et:TypeId}{sz:Nat}{gh:Gh}{p':κ×(ν×Option Gh)}(hp':p'.2.2=some gh){ll:List (κ×(ν×Option Gh))}{j:Nat}{p:κ×(ν×Option Gh)}(h:ll[j]?=some p)(hp:p.2.2=none):
 List.Perm ((ll.set j p').filterMap (xZ et sz)) (cp.row gh.g et (gh.cap*sz) (gh.n*sz)::ll.filterMap (xZ et sz)):=by
 have h1:(ll.set j p')[j]?=some p':=by
  rw[List.getElem?_set_self (List.getElem?_eq_some_iff.1 h).1]
 have:=G0 (et:=et) (sz:=sz) (p':=p) hp h1 hp'
 rwa[Zu h]at this
theorem St.acq{B:List Nat}{m0 m:Mem}:∀{D L:List cp},St B m0 m (D++L)->St B m0 m L
 |[],_,h=>h
 |_::_,_,h=>St.acq (St.drop h)
theorem ZC{D L R L' R':List cp}{b:Nat}{q q':Obj}{w':World}(hO:Ow m (cp.cat (.obj b q::L)::R))(hw:m.w.grownBy w' (some b))(hsz:w'.heap.size=m.w.heap.size)(hb:w'.heap[b]?=some q')(hp:List.Perm (L++R) (D++(L'++R'))):
 St (bW (cp.cat (.obj b q::L)::R)) m ⟨w',m.ok⟩ (cp.cat (.obj b q'::L')::R'):=by
 have h1:St (bW (cp.cat (.obj b q::L)::R)) m m (.obj b q::(L++R)):=(St.refl hO).R5
 have h2:St (bW (cp.cat (.obj b q::L)::R)) m ⟨w',m.ok⟩ (.obj b q'::(D++(L'++R'))):=(h1.vA hw hsz hb).perm (hp.cons _)
 have h3:St (bW (cp.cat (.obj b q::L)::R)) m ⟨w',m.ok⟩ (D++((.obj b q'::L')++R')):=h2.perm List.perm_middle.symm
 exact(St.acq h3).cat
theorem Ia{q b:Nat}{gh:Gh}{t et:TypeId}{kc c:Co}{l:List (T S kc×List (T S c))}{hole:Option (T S kc)}{e:cp}(hob:xo K g m q (.fo t et kc c l hole) e)(k1:g.bk q=some gh)(k2:gh.g=some b):
 ∃es clock ll,e=.cat (.obj b (.map es clock)::ll.filterMap (xZ et (zK K c)))/\sS (fW K kc m) (W9 K m c) es clock ll/\ll.map (fun p=>(p.1,p.2.1))=l/\QR K m kc es ll hole:=by
 obtain⟨gh',b',es,clock,ll,j1,j2,rfl,j4,j5,j6⟩:=hob
 rw[k1]at j1;have e1:=ar j1;subst e1
 rw[k2]at j2;have e2:=ar j2;subst e2
 exact⟨es,clock,ll,rfl,j4,j5,j6⟩
theorem Lb{b:Nat}{q:Obj}{L R:List cp}(hO:Ow m (cp.cat (.obj b q::L)::R)):m.w.heap[b]?=some q:=hO.R5.ok (.obj b q) (by simp)
theorem Rb(hT:gj P K tt){t:TypeId}(ho:o.op=.makeMap t none){i:Co×Co×TypeId}(hi:Bb tb tt t=some i)(h:k {v:=.one (.mp (ct+1)),add:=[(ct+1,.fo t i.2.2 i.1 i.2.1 [] none)]}=some r):ji P K o [] ob ct k r:=by
 refine⟨_,h,by simp,fun g a m Lr Lm hf _ ha hr hm hO=>?_⟩;simp only[pick,lv]at hr hm;subst hr;subst hm;refine IC (Ke.nil a) (St.refl (Ow.nil m)) ho fun m' b hle hS=>?_
 have hg:=GG.nX (x:=⟨some b,none,0,0,default⟩) (hf (ct+1) (by omega) (by omega)).1;have hS':St (bW ([]:List cp)) m m' ([cp.cat [.obj b (.map #[] 0)]]):=St.cat (L:=[.obj b (.map #[] 0)]) (R:=[]) (by simpa using hS);refine⟨m',g.qW (ct+1) ⟨some b,none,0,0,default⟩,[cp.cat [.obj b (.map #[] 0)]],rfl,by simpa using hS',hg,rfl,rfl,GG.ld,⟨_,[],rfl,⟨_,b,#[],0,[],GG.ey,rfl,rfl,sS.nil,rfl,fun i p h=>by simp at h⟩,rfl⟩,?_⟩;simp only[cn,b7];exact⟨_,b,GG.ey,rfl,rfl⟩
theorem Rd(hT:gj P K tt){t:TypeId}(ho:o.op=.makeMap t none){i:Co}(hi:Ik tb tt t=some i)(h:k {v:=.one (.mp (ct+1)),add:=[(ct+1,.MU t i [])]}=some r):ji P K o [] ob ct k r:=by
 refine⟨_,h,by simp,fun g a m Lr Lm hf _ ha hr hm hO=>?_⟩;simp only[pick,lv]at hr hm;subst hr;subst hm;refine IC (Ke.nil a) (St.refl (Ow.nil m)) ho fun m' b hle hS=>?_
 have hg:=GG.nX (x:=⟨some b,none,0,0,default⟩) (hf (ct+1) (by omega) (by omega)).1;refine⟨m',g.qW (ct+1) ⟨some b,none,0,0,default⟩,[.obj b (.map #[] 0)],rfl,by simpa using hS,hg,rfl,rfl,GG.ld,⟨_,[],rfl,⟨_,b,#[],0,GG.ey,rfl,rfl,sS.nil⟩,rfl⟩,?_⟩;simp only[cn,b7];exact⟨_,b,GG.ey,rfl,rfl⟩
theorem Tp(hT:gj P K tt){t:TypeId}{x y:Operand}{c:Bool}(ho:o.op=.lookup t x y c){v:CV S}{key:AV S}(h:H8 tb tt t v key c ob k=some r):ji P K o [.one v,key] ob ct k r:=by
 have hox:o.op.operands.toList=[x,y]:=by rw[ho];rfl
 unfold H8 at h;obtain⟨⟨i1,i2,ec⟩,hi,h1⟩:=ae.1 h;simp only at h1;obtain⟨cs,hcs,h2⟩:=ae.1 h1;obtain⟨xk,hxk,h4⟩:=ae.1 h2;obtain⟨kt,se,hu,hec,hz,HK⟩:=H9 hT hi;simp only at hec HK;split at h4
 . rename_i q;obtain⟨⟨ver,ao⟩,hq,h5⟩:=ae.1 h4;split at h5
   . rename_i t' et kc c l hao;simp only at hao;subst hao;split at h5
     . rename_i hk hv he q1 q2;clear h h1 h2 h4;cases hk;cases hv;refine⟨_,h5,by simp,fun g a m Lr Lm hf _ ha hr hm hO=>?_⟩;simp only[pick,lv]at hm;subst hm;rw[hox]at ha;obtain⟨hv,hw⟩:=jz ha;simp only[cn,b7]at hv;obtain⟨gh,b,k1,k2,k3⟩:=hv;have hx:a.eval x=.map (some b):=by simpa using k3
       obtain⟨e,rfl,_,hob⟩:=gG hr hq;obtain⟨es,clock,ll,rfl,hM,rfl,hh⟩:=Ia hob k1 k2;have hb:=Lb (by simpa using hO);have hkR:=sK hcs hxk hw;have hH:lV P kt (fW K i1 m) (qw tb i1):=HK.sub fun x v h=>⟨m,h⟩
       obtain⟨u,hu1,hu2⟩:=CU hH hu (hz m.w) hb hM hkR false;have hrun:(execOp a.eval o).run P m.w=.ok (.value u) m.w:=by
        simp[execOp,ho,hx,hu2]
       refine bU.val hrun (I4.pure rfl (by simpa using hO) ?_);have hget:=Q5 (eq:=qw tb i1) (fun p:List (T S i2)×Option Gh=>p.1) ll xk;simp only[cn,b7,Jd];rw[hget]
       cases hm:dT (qw tb i1) ll xk with
       |none=>rw[hm]at hu1;subst hu1;exact⟨none,0,rfl,gX.nil m (zK K i2)⟩
       |some y=>
        rw[hm]at hu1
        have hy:y.2≠none:=by
         unfold dT at hm;obtain⟨p,hp,rfl⟩:=af.1 hm;obtain⟨j,hj⟩:=List.getElem?_of_mem (List.mem_of_find?_eq_some hp);exact hh j p hj
        simp only at hu1
        unfold W9 at hu1
        split at hu1
        . obtain⟨l0,ad,e1,e2,_⟩:=hu1
          exact⟨ad,_,by rw[e1];rfl,e2⟩
        . rename_i hn;exact absurd hn hy
     . cases h5
   . cases h5
 . cases h4
theorem YN(hT:gj P K tt){t:TypeId}{x y:Operand}{c:Bool}(ho:o.op=.lookup t x y c){v:CV S}{key:AV S}(h:Ig tb tt t v key c ob ct k=some r):ji P K o [.one v,key] ob ct k r:=by
 have hox:o.op.operands.toList=[x,y]:=by rw[ho];rfl
 unfold Ig at h;obtain⟨⟨i1,i2,ec⟩,hi,h1⟩:=ae.1 h;simp only at h1;obtain⟨cs,hcs,h2⟩:=ae.1 h1;obtain⟨xk,hxk,h4⟩:=ae.1 h2;obtain⟨kt,se,hu,hec,hz,HK⟩:=H9 hT hi;simp only at hec HK;split at h4
 . rename_i q;obtain⟨⟨ver,ao⟩,hq,h5⟩:=ae.1 h4;split at h5
   . rename_i t' et kc c l hao;simp only at hao;subst hao;split at h5
     . rename_i hk hv he q1 q2;clear h h1 h2 h4;cases hk;cases hv;simp only[aq]at he;have he2:=ah he.2;subst he2;refine⟨_,h5,by simp,fun g a m Lr Lm hf _ ha hr hm hO=>?_⟩;simp only[pick,lv]at hr;subst hr;rw[hox]at ha;obtain⟨hv,hw⟩:=jz ha;simp only[cn,b7]at hv;obtain⟨gh,b,k1,k2,k3⟩:=hv;have hx:a.eval x=.map (some b):=by simpa using k3
       obtain⟨e,rfl,_,hob⟩:=gG hm hq;obtain⟨es,clock,ll,rfl,hM,rfl,hh⟩:=Ia hob k1 k2;have hO':Ow m [cp.cat (.obj b (.map es clock)::ll.filterMap (xZ et (zK K i2)))]:=by simpa using hO
       have hb:=Lb hO';have hkR:=sK hcs hxk hw;have hH:lV P kt (fW K i1 m) (qw tb i1):=HK.sub fun x v h=>⟨m,h⟩
       have hget:=Q5 (eq:=qw tb i1) (fun p:List (T S i2)×Option Gh=>p.1) ll xk;obtain⟨u,hu1,hu2⟩:=CU hH hu (hz m.w) hb hM hkR false;have hrun:(execOp a.eval o).run P m.w=.ok (.value u) m.w:=by
        simp[execOp,ho,hx,hu2]
       refine bU.val hrun ?_;have hst:=(MapKept.stamped_iff es clock).1 hM.st;rcases hH.find m.w hkR es.toList hM.keys with⟨_,hno⟩|⟨j,e0,_,hj,hke⟩
       . obtain⟨_,a2⟩:=any_none hH hkR hM.EA hno;have hg0:dT (qw tb i1) ll xk=none:=by unfold dT;rw[a2];rfl
         rw[hg0]at hu1;simp only at hu1;subst hu1;have hge:=GG.nX (x:=⟨none,none,0,0,default⟩) (hf (ct+1) (by omega) (by omega)).1;have hS:St (bW [cp.cat (.obj b (.map es clock)::ll.filterMap (xZ et (zK K i2)))]) m m [cp.cat (.obj b (.map es clock)::ll.filterMap (xZ et (zK K i2))),cp.row none et (0*zK K i2) (0*zK K i2)]:=
          ((St.refl hO').Sw (α:=T S i2) et (zK K i2)).perm (List.Perm.swap _ _ _)
         refine⟨m,_,_,rfl,by simpa using hS,hge,rfl,rfl,GG.ld,⟨_,_,rfl,⟨gh,b,es,clock,ll,hge.bk _ _ k1,k2,rfl,hM,rfl,fun i p e h1 _ h3=>absurd h3 (hh i p h1)⟩,⟨_,[],rfl,⟨_,GG.ey,rfl⟩,rfl⟩⟩,?_⟩;simp only[cn,b7,Jd];rw[hget,hg0];exact⟨_,[],none,GG.ey,rfl,gX.nil _ _,gX.nil _ _,rfl,fun h=>by cases h⟩
       . obtain⟨p,hlj,hen,_,hfind,_⟩:=any_some hH hkR hM.EA hst.2.2 hj hke;have hg0:dT (qw tb i1) ll xk=some p.2:=by unfold dT;rw[hfind];rfl
         rw[hg0]at hu1;simp only at hu1;have hpn:=hh j p hlj
         cases hp2:p.2.2 with
         |none=>exact absurd hp2 hpn
         |some gh2=>
         unfold W9 at hu1;rw[hp2]at hu1;simp only at hu1;have hge:=GG.nX (x:=gh2) (hf (ct+1) (by omega) (by omega)).1;have hS:St (bW [cp.cat (.obj b (.map es clock)::ll.filterMap (xZ et (zK K i2)))]) m m [cp.cat (.obj b (.map es clock)::(ll.set j (p.1,(p.2.1,none))).filterMap (xZ et (zK K i2))),cp.row gh2.g et (gh2.cap*zK K i2) (gh2.n*zK K i2)]:=by
          have h1:St (bW [cp.cat (.obj b (.map es clock)::ll.filterMap (xZ et (zK K i2)))]) m m (.obj b (.map es clock)::(ll.filterMap (xZ et (zK K i2))++[])):=(St.refl hO').R5;rw[aL]at h1;exact St.cat (L:=.obj b (.map es clock)::(ll.set j (p.1,(p.2.1,none))).filterMap (xZ et (zK K i2))) (R:=[cp.row gh2.g et (gh2.cap*zK K i2) (gh2.n*zK K i2)])
           (h1.perm (((G0 rfl hlj hp2).trans (List.perm_append_singleton _ _).symm).cons _))
         refine⟨m,_,_,rfl,by simpa using hS,hge,rfl,rfl,GG.ld,⟨_,_,rfl,⟨gh,b,es,clock,ll.set j (p.1,(p.2.1,none)),hge.bk _ _ k1,k2,rfl,⟨hM.st,?_⟩,?_,?_⟩,⟨_,[],rfl,⟨gh2,GG.ey,rfl⟩,rfl⟩⟩,?_⟩
         . have:=hM.EA.set (e:=e0) (p:=(p.1,(p.2.1,none))) ⟨hen.1,by unfold W9;trivial⟩ j;rwa[RN hj]at this
         . show _=ll.map fun p=>(p.1,p.2.1)
           rw[List.map_set];exact RN (by rw[List.getElem?_map,hlj];rfl)
         . intro i q e h1 h2 h3;by_cases hij:i=j
           . subst hij;rw[hj]at h2;cases h2;rw[hke];exact hkR
           . rw[List.getElem?_set_ne (Ne.symm hij)]at h1;exact absurd h3 (hh i q h1)
         . simp only[cn,b7,Jd];rw[hget,hg0];obtain⟨l0,ad,r1,r2⟩:=hu1;exact⟨gh2,l0,ad,GG.ey,by rw[r1];rfl,r2⟩
     . cases h5
   . cases h5
 . cases h4
theorem Yy{κ ν μ:Type}(eq:κ->κ->Bool)(f:ν->μ)(l:List (κ×ν))(x:κ)(v:ν):lP eq (l.map fun p=>(p.1,f p.2)) x (f v)=(lP eq l x v).map fun p=>(p.1,f p.2):=by
 unfold lP;rw[show((l.map fun p=>(p.1,f p.2)).any fun p=>eq x p.1)=l.any fun p=>eq x p.1 from by rw[List.any_map];rfl];split
 . rw[List.map_map,List.map_map];refine List.map_congr_left fun p _=>?_
   simp only[Function.comp];split<;>rfl
 . rw[aY];rfl
theorem Yz{κ ν:Type}{eq:κ->κ->Bool}{l:List (κ×ν)}{x:κ}{v:ν}{i:Nat}{p:κ×ν}(h:(lP eq l x v)[i]?=some p):p.2=v\/(l[i]?=some p/\eq x p.1=false)\/(l.any fun p=>eq x p.1)=false/\l[i]?=some p:=by
 unfold lP at h;split at h
 . rw[List.getElem?_map]at h;obtain⟨q,hq,rfl⟩:=af.1 h;split
   . exact .inl rfl
   . rename_i hn;exact .inr (.inl ⟨hq,by simpa using hn⟩)
 . rename_i hn;rcases Nat.lt_or_ge i l.length with h1|h1
   . rw[List.getElem?_append_left h1]at h;exact .inr (.inr ⟨by simpa using hn,h⟩)
   . rw[List.getElem?_append_right h1]at h;obtain⟨h2,h3⟩:=List.getElem?_eq_some_iff.1 h;have:i-l.length=0:=by simp at h2;omega
     simp only[this,List.getElem_cons_zero]at h3;subst h3;exact .inl rfl
theorem Zf{κ ν:Type}{et:TypeId}{sz:Nat}{gh:Gh}{ll:List (κ×(ν×Option Gh))}{j:Nat}{p:κ×(ν×Option Gh)}(h:ll[j]?=some p)(x:κ)(v:ν):∃D,List.Perm (ll.filterMap (xZ et sz)++[cp.row gh.g et (gh.cap*sz) (gh.n*sz)]) (D++(ll.set j (x,(v,some gh))).filterMap (xZ et sz)):=by
 cases hp:p.2.2 with
 |none=>exact⟨[],(List.perm_append_singleton _ _).trans (U1 rfl h hp).symm⟩
 |some gh0=>
  have h1:=G0 (et:=et) (sz:=sz) (p':=(p.1,(p.2.1,none))) rfl h hp
  have hj:j<ll.length:=(List.getElem?_eq_some_iff.1 h).1
  have h2:(ll.set j (p.1,(p.2.1,none)))[j]?=some (p.1,(p.2.1,none)):=List.getElem?_set_self hj
  have h3:=U1 (et:=et) (sz:=sz) (gh:=gh) (p':=(x,(v,some gh))) rfl h2 rfl
  rw[List.set_set]at h3
  refine⟨[cp.row gh0.g et (gh0.cap*sz) (gh0.n*sz)],?_⟩
  refine((List.perm_append_singleton _ _).trans (h1.cons _)).trans ?_
  exact(List.Perm.swap _ _ _).trans (h3.symm.cons _)
theorem X5{α:Type}{eq:α->α->Bool}{x:α}{hole:Option α}{k0:Option γ}(h:Uv eq x hole k0=some r):k0=some r/\∀y,hole=some y->eq x y=true:=by
 unfold Uv at h
 cases hole with
 |none=>exact⟨h,fun y hy=>by cases hy⟩
 |some y=>
  obtain⟨u,h1,h2⟩:=ae.1 h
  exact⟨h2,fun z hz=>by cases hz;exact nL h1⟩
theorem abf(hT:gj P K tt){t:TypeId}{x y z:Operand}(ho:o.op=.mapUpdate t x y z){v:CV S}{key:AV S}{w:CV S}(h:Nx tb tt t v key w ob k=some r):ji P K o [.one v,key,.one w] ob ct k r:=by
 have hox:o.op.operands.toList=[x,y,z]:=by rw[ho];rfl
 unfold Nx at h;obtain⟨⟨i1,i2,ec⟩,hi,h1⟩:=ae.1 h;simp only at h1;obtain⟨cs,hcs,h2⟩:=ae.1 h1;obtain⟨xk,hxk,h4⟩:=ae.1 h2;obtain⟨kt,se,hu,hec,hz,HK⟩:=H9 hT hi;simp only at hec HK;split at h4
 . rename_i q p d l2;obtain⟨⟨ver,ao⟩,hq,h5⟩:=ae.1 h4;obtain⟨⟨ver2,ao2⟩,hp,h6⟩:=ae.1 h5;split at h6
   . rename_i t' et kc c l hole et' c' hao hao2;simp only at hao hao2;subst hao;subst hao2;split at h6
     . rename_i hk hv hc hd he q1 q2 q3 q4;clear h h1 h2 h4 h5;cases hk;cases hv;cases hc;cases hd;simp only[aq]at he;have he2:=ah he.2.1;have he3:=ah he.2.2;subst he2;subst he3;obtain⟨h7,hhole⟩:=X5 h6;simp only[acj]at hhole;refine⟨_,h7,by simp,fun g a m Lr Lm hf _ ha hr hm hO=>?_⟩;simp only[pick,lv]at hr;subst hr;simp only[pick,hq,hp,lv]at hm;obtain⟨e1,L1,rfl,_,hob,e2,L2,rfl,_,hob2,rfl⟩:=hm;rw[hox]at ha;obtain⟨hv,hw,hz⟩:=CM ha;simp only[cn,b7]at hv hz;obtain⟨gh,b,k1,k2,k3⟩:=hv;obtain⟨ghw,l0,ad,w1,w2,w3⟩:=hz;have hx:a.eval x=.map (some b):=by simpa using k3
       have hz':a.eval z=.slice ad l2.length (ghw.cap-l0.length):=by simpa using w2
       obtain⟨gh2,r1,rfl⟩:=hob2;rw[w1]at r1;have r2:=ar r1;subst r2;obtain⟨es,clock,ll,rfl,hM,rfl,hh⟩:=Ia hob k1 k2;have hO':Ow m [cp.cat (.obj b (.map es clock)::ll.filterMap (xZ et' (zK K i2))),cp.row ghw.g et' (ghw.cap*zK K i2) (ghw.n*zK K i2)]:=by simpa using hO
       have hb:=Lb hO';have hkR:=sK hcs hxk hw;have hH:lV P kt (fW K i1 m) (qw tb i1):=HK.sub fun x v h=>⟨m,h⟩
       have hst:=(MapKept.stamped_iff es clock).1 hM.st;obtain⟨es',clock',hrun,hM',_⟩:=Kl hH hu hb hM hkR (v:=(l2,some ghw)) (val:=a.eval z) (by unfold W9;exact⟨l0,ad,hz',w3⟩);have hrun':(execOp a.eval o).run P m.w=.ok .skip (setBlock m.w b (.map es' clock')):=by
        simp[execOp,ho,hx,hrun]
       unfold bU;rw[hrun'];have hD:∃D,List.Perm (ll.filterMap (xZ et' (zK K i2))++[cp.row ghw.g et' (ghw.cap*zK K i2) (ghw.n*zK K i2)]) (D++((lP (qw tb i1) ll xk (l2,some ghw)).filterMap (xZ et' (zK K i2))++[])):=by
        rw[aL];rcases hH.find m.w hkR es.toList hM.keys with⟨_,hno⟩|⟨j,e0,_,hj,hke⟩
        . obtain⟨a1,_⟩:=any_none hH hkR hM.EA hno;have:lP (qw tb i1) ll xk (l2,some ghw)=ll++[(xk,(l2,some ghw))]:=by unfold lP;rw[if_neg (by rw[a1];simp)]
          rw[this,List.filterMap_append];exact⟨[],List.Perm.refl _⟩
        . obtain⟨pp,hlj,_,c3,_,c5,_⟩:=any_some hH hkR hM.EA hst.2.2 hj hke;have:lP (qw tb i1) ll xk (l2,some ghw)=ll.set j (xk,(l2,some ghw)):=by unfold lP;rw[if_pos c3,c5]
          rw[this];exact Zf hlj _ _
       obtain⟨D,hD⟩:=hD;have hS:=ZC (q':= .map es' clock') hO' (wQ hb _) (by simp[setBlock]) (heap_setBlock_same hb _) hD;refine⟨⟨setBlock m.w b (.map es' clock'),m.ok⟩,g,_,rfl,by simpa using hS,GE.refl g,rfl,rfl,fun i h=>absurd rfl h,⟨_,[],rfl,⟨gh,b,es',clock',lP (qw tb i1) ll xk (l2,some ghw),k1,k2,rfl,?_,?_,?_⟩,rfl⟩,?_⟩
       . exact hM'.mono (fun _ _ h=>fW.mono K hS.le h) (fun _ _ h=>W9.mono K hS.le h)
       . exact(Yy (qw tb i1) (fun p:List (T S i2)×Option Gh=>p.1) ll xk (l2,some ghw)).symm
       . intro i u hu;rcases Yz hu with h1|⟨h1,h2⟩|⟨h1,h2⟩
         . rw[h1];simp
         . intro hn
           cases hole with
           |none=>exact hh i u h1 hn
           |some y=>
            have hy:=hhole y rfl
            obtain⟨e,he⟩:∃e,es.toList[i]?=some e:=by
             have hl:=hM.EA.len;have hi:=(List.getElem?_eq_some_iff.1 h1).1;exact⟨_,List.getElem?_eq_getElem (by omega)⟩
            have hky:=hh i u e h1 he hn
            obtain⟨u',hu',hen⟩:=hM.EA.at he
            rw[h1]at hu';cases hu'
            have e1:=(hH.eqv _ _ _ _ hkR hky).1 hy
            have e2:=(hH.eqv _ _ _ _ hkR hen.1).2 e1
            rw[h2]at e2;cases e2
         . intro hn
           cases hole with
           |none=>exact hh i u h2 hn
           |some y=>
            have hy:=hhole y rfl
            obtain⟨e,he⟩:∃e,es.toList[i]?=some e:=by
             have hl:=hM.EA.len;have hi:=(List.getElem?_eq_some_iff.1 h2).1;exact⟨_,List.getElem?_eq_getElem (by omega)⟩
            have hky:=hh i u e h2 he hn
            obtain⟨u',hu',hen⟩:=hM.EA.at he
            rw[h2]at hu';cases hu'
            have e1:=(hH.eqv _ _ _ _ hkR hky).1 hy
            have e2:=(hH.eqv _ _ _ _ hkR hen.1).2 e1
            have:=List.any_eq_false.1 h1 u (List.mem_of_getElem? h2)
            rw[e2]at this;exact this rfl
       . simp[AV.uI,cn,fO,undef]
     . cases h6
   . cases h6
 . cases h4
theorem NI{q b:Nat}{gh:Gh}{t:TypeId}{kc:Co}{l:List (T S kc×CV S)}{e:cp}(hob:xo K g m q (.MU t kc l) e)(k1:g.bk q=some gh)(k2:gh.g=some b):
 ∃es clock,e=.obj b (.map es clock)/\sS (fW K kc m) (fun y v=>adb y=true/\b7 K g m y [v]) es clock l:=by
 obtain⟨gh',b',es,clock,j1,j2,rfl,j4⟩:=hob
 rw[k1]at j1;have e1:=ar j1;subst e1
 rw[k2]at j2;have e2:=ar j2;subst e2
 exact⟨es,clock,rfl,j4⟩
theorem UR(hT:gj P K tt){t:TypeId}{x y z:Operand}(ho:o.op=.mapUpdate t x y z\/o.op=.insert t x y z){v:CV S}{key w:AV S}(h:LF tb tt t v key w ob k=some r):ji P K o [.one v,key,w] ob ct k r:=by
 have hox:o.op.operands.toList=[x,y,z]:=by rcases ho with ho|ho<;>rw[ho]<;>rfl
 unfold LF at h;obtain⟨i,hi,h1⟩:=ae.1 h;obtain⟨cs,hcs,h2⟩:=ae.1 h1;obtain⟨xk,hxk,h4⟩:=ae.1 h2;obtain⟨kt,se,hu,hz,HK⟩:=NH hT hi;split at h4
 . rename_i q f;obtain⟨⟨ver,ao⟩,hq,h5⟩:=ae.1 h4;split at h5
   . rename_i t' kc l hao;simp only at hao;subst hao;split at h5
     . rename_i hk he q1;clear h h1 h2 h4;cases hk;split at h5
       . cases h5
       . rename_i hany;simp only[Qu]at hany;simp only[aq]at he;refine⟨_,h5,by simp,fun g a m Lr Lm hf _ ha hr hm hO=>?_⟩;simp only[pick,lv]at hr;subst hr;rw[hox]at ha;obtain⟨hv,hw,hy⟩:=CM ha;simp only[cn,b7]at hv hy;obtain⟨gh,b,k1,k2,k3⟩:=hv;have hx:a.eval x=.map (some b):=by simpa using k3
         obtain⟨e,rfl,_,hob⟩:=gG hm hq;obtain⟨es,clock,rfl,hM⟩:=NI hob k1 k2;have hO':Ow m [cp.obj b (.map es clock)]:=by simpa using hO
         have hb:m.w.heap[b]?=some (.map es clock):=hO'.ok _ ax;have hkR:=sK hcs hxk hw;have hH:lV P kt (fW K i m) (qw tb i):=HK.sub fun x v h=>⟨m,h⟩
         obtain⟨es',clock',hrun,hM',_⟩:=Kl hH hu hb hM hkR (v:=f) (val:=a.eval z) ⟨he.2,hy⟩;have hrun':(execOp a.eval o).run P m.w=.ok .skip (setBlock m.w b (.map es' clock')):=by
          rcases ho with ho|ho<;>simp[execOp,ho,hx,hrun]
         unfold bU;rw[hrun'];have hS:=(St.refl hO').vA (wQ hb (.map es' clock')) (by simp[setBlock]) (heap_setBlock_same hb (.map es' clock'));rw[show lP (qw tb i) l xk f=l++[(xk,f)] from by unfold lP;rw[hany];rfl]at hM';refine⟨_,g,[.obj b (.map es' clock')],rfl,by simpa using hS,GE.refl g,rfl,rfl,fun i h=>absurd rfl h,⟨_,[],rfl,⟨gh,b,es',clock',k1,k2,rfl,?_⟩,rfl⟩,by simp[AV.uI,cn,fO,undef]⟩;exact hM'.mono (fun _ _ h=>fW.mono K hS.le h) fun _ _ h=>⟨h.1,h.2.mono (GE.refl g) hS.le⟩
     . cases h5
   . cases h5
 . cases h4
theorem QU{q:Nat}{c:Co}{x:T S c}:∀{l:List (T S c×CV S)},LD tb q c x k l=some r->k {v:=.one ((dT (qw tb c) l x).getD .ed),rd:=[q]}=some r
 |[],h=>h
 |p::l,h=>by
  unfold LD at h;unfold dT;rw[List.find?_cons];split at h
  . rename_i hp;rw[hp];exact h
  . rename_i hp;rw[Bool.not_eq_true]at hp;rw[hp];exact QU h
theorem Tq(hT:gj P K tt){t:TypeId}{x y:Operand}{c:Bool}(ho:o.op=.lookup t x y c){v:CV S}{key:AV S}(h:Ij tb tt t v key c ob k=some r):ji P K o [.one v,key] ob ct k r:=by
 have hox:o.op.operands.toList=[x,y]:=by rw[ho];rfl
 unfold Ij at h;obtain⟨i,hi,h1⟩:=ae.1 h;obtain⟨cs,hcs,h2⟩:=ae.1 h1;obtain⟨xk,hxk,h4⟩:=ae.1 h2;obtain⟨kt,se,hu,hz,HK⟩:=NH hT hi;split at h4
 . rename_i q;obtain⟨⟨ver,ao⟩,hq,h5⟩:=ae.1 h4;split at h5
   . rename_i t' kc l hao;simp only at hao;subst hao;split at h5
     . rename_i hk he q1;clear h h1 h2 h4;cases hk;simp only[Qu]at h5;refine⟨_,QU h5,by simp,fun g a m Lr Lm hf _ ha hr hm hO=>?_⟩;simp only[pick,lv]at hm;subst hm;rw[hox]at ha;obtain⟨hv,hw⟩:=jz ha;simp only[cn,b7]at hv;obtain⟨gh,b,k1,k2,k3⟩:=hv;have hx:a.eval x=.map (some b):=by simpa using k3
       obtain⟨e,rfl,_,hob⟩:=gG hr hq;obtain⟨es,clock,rfl,hM⟩:=NI hob k1 k2;have hb:m.w.heap[b]?=some (.map es clock):=(show Ow m [cp.obj b (.map es clock)]by simpa using hO).ok _ ax;have hkR:=sK hcs hxk hw;have hH:lV P kt (fW K i m) (qw tb i):=HK.sub fun x v h=>⟨m,h⟩
       obtain⟨u,hu1,hu2⟩:=CU hH hu (hz m.w) hb hM hkR false;have hrun:(execOp a.eval o).run P m.w=.ok (.value u) m.w:=by
        simp[execOp,ho,hx,hu2]
       refine bU.val hrun (I4.pure rfl (by simpa using hO) ?_);simp only[cn]
       cases hm:dT (qw tb i) l xk with
       |none=>rw[hm]at hu1;subst hu1;simp[b7]
       |some f=>rw[hm]at hu1;exact hu1.2
     . cases h5
   . cases h5
 . cases h4
end E
end
end Go.Proofs.YtekpafdhgkocaaaGreat
