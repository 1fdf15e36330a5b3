/- Part of the proof. -/
import Derived.Test.YtjfkdglgecgjfaaGreatZEvA
namespace Go.Proofs.YtjfkdglgecgjfaaGreat
section
open Go.RowKit G
namespace E
variable {S:Nat->Type}{tb:Tb S}{K:ep tb}
mutual
theorem CS.ke:∀{s:CS} {mp mp':List (Nat×Nat)} {vs vs':List (CV S)} {ds:List (ic S)},CS.take tb mp s vs=some (ds,vs',mp')->Sub mp mp'/\(jr mp->jr mp')
 |.eX c,mp,mp',vs,vs',ds,h=>by
  simp only[CS.take]at h;obtain⟨p,hp,h⟩:=ab.1 h;simp only[aA]at h;obtain⟨_,_,rfl⟩:=h;exact⟨Sub.refl _,id⟩
 |.rw o c,mp,mp',vs,vs',ds,h=>by
  cases vs with
  |nil=>simp[CS.take]at h
  |cons v vs=>
   cases v<;>first|(simp[CS.take]at h;done)|skip
   simp only[CS.take]at h
   split at h
   . obtain⟨mp1,hu,h⟩:=ab.1 h
     simp only[aA]at h
     obtain⟨_,_,rfl⟩:=h
     exact⟨(fh hu).1,(fh hu).2.1⟩
   . cases h
 |.aw o,mp,mp',vs,vs',ds,h=>by
  cases vs with
  |nil=>simp[CS.take]at h
  |cons v vs=>
   cases v<;>first|(simp[CS.take]at h;done)|skip
   simp only[CS.take]at h
   obtain⟨mp1,hu,h⟩:=ab.1 h
   simp only[aA]at h
   obtain⟨_,_,rfl⟩:=h
   exact⟨(fh hu).1,(fh hu).2.1⟩
 |.ptr o off,mp,mp',vs,vs',ds,h=>by
  cases vs with
  |nil=>simp[CS.take]at h
  |cons v vs=>
   cases v<;>first|(simp[CS.take]at h;done)|skip
   simp only[CS.take]at h
   split at h
   . obtain⟨mp1,hu,h⟩:=ab.1 h
     simp only[aA]at h
     obtain⟨_,_,rfl⟩:=h
     exact⟨(fh hu).1,(fh hu).2.1⟩
   . cases h
 |.kG,mp,mp',vs,vs',ds,h=>by
  cases vs with
  |nil=>simp[CS.take]at h
  |cons v vs=>
   cases v<;>first|(simp[CS.take]at h;done)|skip
   simp only[CS.take,af,aA]at h
   obtain⟨_,_,rfl⟩:=h
   exact⟨Sub.refl _,id⟩
 |.fB,mp,mp',vs,vs',ds,h=>by
  cases vs with
  |nil=>simp[CS.take]at h
  |cons v vs=>
   cases v<;>first|(simp[CS.take]at h;done)|skip
   simp only[CS.take,af,aA]at h
   obtain⟨_,_,rfl⟩:=h
   exact⟨Sub.refl _,id⟩
 |.fg,mp,mp',vs,vs',ds,h=>by
  cases vs with
  |nil=>simp[CS.take]at h
  |cons v vs=>
   cases v<;>first|(simp[CS.take]at h;done)|skip
   simp only[CS.take,af,aA]at h
   obtain⟨_,_,rfl⟩:=h
   exact⟨Sub.refl _,id⟩
 |.tt b,mp,mp',vs,vs',ds,h=>by
  cases vs with
  |nil=>simp[CS.take]at h
  |cons v vs=>
   cases v<;>first|(simp[CS.take]at h;done)|skip
   simp only[CS.take]at h
   split at h
   . simp only[af,aA]at h
     obtain⟨_,_,rfl⟩:=h
     exact⟨Sub.refl _,id⟩
   . cases h
 |.yl o,mp,mp',vs,vs',ds,h=>by
  cases vs with
  |nil=>simp[CS.take]at h
  |cons v vs=>
   cases v<;>first|(simp[CS.take]at h;done)|skip
   simp only[CS.take]at h
   obtain⟨mp1,hu,h⟩:=ab.1 h
   simp only[aA]at h
   obtain⟨_,_,rfl⟩:=h
   exact⟨(fh hu).1,(fh hu).2.1⟩
 |.mpo o,mp,mp',vs,vs',ds,h=>by
  cases vs with
  |nil=>simp[CS.take]at h
  |cons v vs=>
   cases v<;>first|(simp[CS.take]at h;done)|skip
   simp only[CS.take]at h
   obtain⟨mp1,hu,h⟩:=ab.1 h
   simp only[aA]at h
   obtain⟨_,_,rfl⟩:=h
   exact⟨(fh hu).1,(fh hu).2.1⟩
 |.fn f xs ys,mp,mp',vs,vs',ds,h=>by
  cases vs with
  |nil=>simp[CS.take]at h
  |cons v vs=>
   cases v<;>first|(simp[CS.take]at h;done)|skip
   rename_i fn first caps
   cases fn<;>first|(simp[CS.take]at h;done)|skip
   simp only[CS.take]at h
   split at h
   . obtain⟨p,hp,h⟩:=aa.1 h
     obtain⟨pd,pv,pm⟩:=p
     split at h
     . obtain⟨q,hq,h⟩:=aa.1 h
       obtain⟨qd,qv,qm⟩:=q
       split at h
       . simp only[af,aA]at h
         obtain⟨_,_,rfl⟩:=h
         obtain⟨a1,a2⟩:=CS.k9 hp
         obtain⟨b1,b2⟩:=CS.k9 hq
         exact⟨a1.trans b1,fun hM=>b2 (a2 hM)⟩
       . cases h
     . cases h
   . cases h
theorem CS.k9:∀{l:List CS} {mp mp':List (Nat×Nat)} {vs vs':List (CV S)} {ds:List (ic S)},CS.takes tb mp l vs=some (ds,vs',mp')->Sub mp mp'/\(jr mp->jr mp')
 |[],mp,mp',vs,vs',ds,h=>by
  simp only[CS.takes,af,aA]at h;obtain⟨_,_,rfl⟩:=h;exact⟨Sub.refl _,id⟩
 |s::l,mp,mp',vs,vs',ds,h=>by
  simp only[CS.takes]at h;obtain⟨p,hp,h⟩:=aa.1 h;obtain⟨pd,pv,pm⟩:=p;obtain⟨q,hq,h⟩:=ab.1 h;obtain⟨qd,qv,qm⟩:=q;simp only[aA]at h;obtain⟨_,_,rfl⟩:=h;obtain⟨a1,a2⟩:=CS.ke hp;obtain⟨b1,b2⟩:=CS.k9 hq;exact⟨a1.trans b1,fun hM=>b2 (a2 hM)⟩
end
mutual
theorem PS.ke:∀{s:PS} {mp mp':List (Nat×Nat)} {v:AV S} {ds:List (ic S)},PS.take tb mp s v=some (ds,mp')->Sub mp mp'/\(jr mp->jr mp')
 |.one s,mp,mp',v,ds,h=>by
  cases v<;>first|(simp[PS.take]at h;done)|skip;simp only[PS.take]at h;obtain⟨p,hp,h⟩:=aa.1 h;obtain⟨pd,pv,pm⟩:=p;split at h
  . simp only[af,aA]at h;obtain⟨_,rfl⟩:=h;exact CS.ke hp
  . cases h
 |.agg l,mp,mp',v,ds,h=>by
  cases v<;>first|(simp[PS.take]at h;done)|skip;simp only[PS.take]at h;obtain⟨p,hp,h⟩:=aa.1 h;obtain⟨pd,pv,pm⟩:=p;split at h
  . simp only[af,aA]at h;obtain⟨_,rfl⟩:=h;exact CS.k9 hp
  . cases h
 |.dD l,mp,mp',v,ds,h=>by
  cases v<;>first|(simp[PS.take]at h;done)|skip;simp only[PS.take]at h;exact PS.k9 h
theorem PS.k9:∀{l:List PS} {mp mp':List (Nat×Nat)} {vs:List (AV S)} {ds:List (ic S)},PS.takes tb mp l vs=some (ds,mp')->Sub mp mp'/\(jr mp->jr mp')
 |[],mp,mp',vs,ds,h=>by
  cases vs with
  |nil=>
   simp only[PS.takes,af,aA]at h
   obtain⟨_,rfl⟩:=h
   exact⟨Sub.refl _,id⟩
  |cons=>simp[PS.takes]at h
 |s::l,mp,mp',vs,ds,h=>by
  cases vs with
  |nil=>simp[PS.takes]at h
  |cons v vs=>
   simp only[PS.takes]at h
   obtain⟨p,hp,h⟩:=aa.1 h
   obtain⟨q,hq,h⟩:=ab.1 h
   obtain⟨pd,pm⟩:=p
   obtain⟨qd,qm⟩:=q
   simp only[aA]at h
   obtain⟨_,rfl⟩:=h
   obtain⟨a1,a2⟩:=PS.ke hp
   obtain⟨b1,b2⟩:=PS.k9 hq
   exact⟨a1.trans b1,fun hM=>b2 (a2 hM)⟩
end
theorem Ba{tm:List (Nat×Nat×AV S)}:∀{l:List (Nat×PS)} {mp mp':List (Nat×Nat)} {ds:List (ic S)},nD tb tm mp l=some (ds,mp')->Sub mp mp'/\(jr mp->jr mp')
 |[],mp,mp',ds,h=>by
  simp only[nD,af,aA]at h;obtain⟨_,rfl⟩:=h;exact⟨Sub.refl _,id⟩
 |(t,s)::l,mp,mp',ds,h=>by
  simp only[nD]at h;obtain⟨a,ha,h⟩:=aa.1 h;obtain⟨p,hp,h⟩:=aa.1 h;obtain⟨r,hr,h⟩:=ab.1 h;obtain⟨pd,pm⟩:=p;obtain⟨rd,rm⟩:=r;simp only[aA]at h;obtain⟨_,rfl⟩:=h;obtain⟨a1,a2⟩:=PS.ke hp;obtain⟨b1,b2⟩:=Ba hr;exact⟨a1.trans b1,fun hM=>b2 (a2 hM)⟩
theorem OS.ke{s:OS}{mp mp':List (Nat×Nat)}{a:AO S}{ds:List (ic S)}(h:OS.take tb mp s a=some (ds,mp')):Sub mp mp'/\(jr mp->jr mp'):=by
 unfold OS.take at h;split at h
 . split at h
   . obtain⟨p,hp,h⟩:=aa.1 h;obtain⟨pd,pv,pm⟩:=p;split at h
     . simp only[af,aA]at h;obtain⟨_,rfl⟩:=h;exact CS.k9 hp
     . cases h
   . cases h
 . split at h
   . simp only[af,aA]at h;obtain⟨_,rfl⟩:=h;exact⟨Sub.refl _,id⟩
   . cases h
 . split at h
   . simp only[af,aA]at h;obtain⟨_,rfl⟩:=h;exact⟨Sub.refl _,id⟩
   . cases h
 . split at h
   . exact Ba h
   . cases h
 . split at h
   . simp only[af,aA]at h;obtain⟨_,rfl⟩:=h;exact⟨Sub.refl _,id⟩
   . cases h
 . split at h
   . simp only[af,aA]at h;obtain⟨_,rfl⟩:=h;exact⟨Sub.refl _,id⟩
   . cases h
 . split at h
   . obtain⟨mp1,hu,h⟩:=ab.1 h;simp only[aA]at h;obtain⟨_,rfl⟩:=h;exact⟨(fh hu).1,(fh hu).2.1⟩
   . cases h
 . split at h
   . obtain⟨mp1,hu,h⟩:=ab.1 h;simp only[aA]at h;obtain⟨_,rfl⟩:=h;exact⟨(fh hu).1,(fh hu).2.1⟩
   . cases h
 . cases h
theorem OS.oM{ob:List (Nat×Nat×AO S)}:∀{l:List OS} {mp mp':List (Nat×Nat)} {o:Nat} {ds:List (ic S)},OS.takes tb ob mp o l=some (ds,mp')->
 Sub mp mp'/\(jr mp->jr mp')/\∀i,o<=i->i<o+l.length->∃q a,look i mp'=some q/\look q ob=some a
 |[],mp,mp',o,ds,h=>by
  simp only[OS.takes,af,aA]at h;obtain⟨rfl,rfl⟩:=h;exact⟨Sub.refl _,id,fun i h1 h2=>by simp at h2;omega⟩
 |s::l,mp,mp',o,ds,h=>by
  simp only[OS.takes]at h;obtain⟨q,hq,h⟩:=aa.1 h;obtain⟨a,ha,h⟩:=aa.1 h;obtain⟨p,hp,h⟩:=aa.1 h;obtain⟨r,hr,h⟩:=ab.1 h;obtain⟨rd,rm⟩:=r;simp only[aA]at h;obtain⟨_,rfl⟩:=h;obtain⟨a1,a2⟩:=OS.ke hp;obtain⟨b1,b2,b3⟩:=OS.oM hr;refine⟨a1.trans b1,fun hM=>b2 (a2 hM),fun i h1 h2=>?_⟩;by_cases e:i=o
  . subst e;exact⟨q,a,b1 _ _ (a1 _ _ hq),ha⟩
  . exact b3 i (by omega) (by simp at h2;omega)
theorem OS.uZ{g:GG S}{m:Mem}{ob:List (Nat×Nat×AO S)}:∀{l:List OS} {mp mp' mp1:List (Nat×Nat)} {o:Nat} {ds:List (ic S)} {L:List bR},OS.takes tb ob mp o l=some (ds,mp')->Sub mp' mp1->eW K g m (pick ob (zQ mp1 o l.length)) L->
 ∀(g':GG S) (ids:Nat->Nat) (ds0:List (ic S)) (aS:List (AO S)) (ds1:List (ic S)),Ren mp1 g g' ids->OS.eS tb ids l (ds++ds0)=some (aS,ds1)->ds1=ds0/\KN K g' m ids o aS L/\aS.length=l.length
 |[],mp,mp',mp1,o,ds,L,h,hS,hL,g',ids,ds0,aS,ds1,hR,hf=>by
  simp only[OS.takes,af,aA]at h;obtain⟨rfl,rfl⟩:=h;simp only[aO,OS.eS]at hf;cases hf;exact⟨rfl,hL,rfl⟩
 |s::l,mp,mp',mp1,o,ds,L,h,hS,hL,g',ids,ds0,aS,ds1,hR,hf=>by
  simp only[OS.takes]at h;obtain⟨q,hq,h⟩:=aa.1 h;obtain⟨a,ha,h⟩:=aa.1 h;obtain⟨p,hp,h⟩:=aa.1 h;obtain⟨r,hr,h⟩:=ab.1 h;obtain⟨pd,pm⟩:=p;obtain⟨rd,rm⟩:=r;simp only[aA]at h;obtain⟨rfl,rfl⟩:=h;have a1:=(OS.ke hp).1;have b1:=(OS.oM hr).1;have hq1:look o mp1=some q:=hS _ _ (b1 _ _ (a1 _ _ hq));simp only[bw,zQ,hq1,pick,ha,eW]at hL;obtain⟨e,L',rfl,h1,h2,h3⟩:=hL;obtain⟨_,_,a3⟩:=OS.lL hp h2;simp only[az,OS.eS]at hf;obtain⟨p1,hp1,hf1⟩:=aa.1 hf;obtain⟨q1,hq1',hf2⟩:=ab.1 hf1;obtain⟨w1,r1⟩:=p1;obtain⟨w2,r2⟩:=q1;clear hf hf1;obtain⟨rfl,k2⟩:=a3 g' ids (ids o) _ _ _ (hR.sub (b1.trans hS)) (fun gh hgh=>hR _ _ _ hq1 hgh) hp1;obtain⟨rfl,l2,l3⟩:=OS.uZ hr hS h3 g' ids _ _ _ hR hq1';simp only[af,aA]at hf2;obtain⟨rfl,rfl⟩:=hf2;exact⟨rfl,⟨e,L',rfl,k2,l2⟩,by simp[l3]⟩
def Q3(bk:Nat->Option Gh):GG S:={bk:=bk,vv:=fun _=>none,oo:=fun _=>none}
def oy:List KS->List bR->List bR
 |.kept::l,e::L=>e::oy l L
 |_::l,_::L=>oy l L
 |_,_=>[]
theorem E2{γ:Type}{k:(o:Out)->HT S o.vm->Option γ}{r:γ}:∀{os:List Out} {y:jo S os},Vu os y k=some r->Cg os y fun o z=>k o z=some r
 |[],_,h=>by cases h
 |[o],y,h=>h
 |_::_::_,Sum.inl _,h=>h
 |_::p::os,Sum.inr _,h=>E2 (os:=p::os) h
theorem Gf{p:(o:Out)->HT S o.vm->Prop}:∀{os:List Out} {y:jo S os},Cg os y p->∃o z,o∈os/\p o z/\∀q:(o:Out)->HT S o.vm->Prop,Cg os y q->q o z
 |[],_,h=>h.elim
 |[o],y,h=>⟨o,y,aq,h,fun q hq=>hq⟩
 |o::_::_,Sum.inl z,h=>⟨o,z,aq,h,fun q hq=>hq⟩
 |_::o'::os,Sum.inr _,h=>by
  obtain⟨o1,z1,h1,h2,h3⟩:=Gf (os:=o'::os) h;exact⟨o1,z1,au _ h1,h2,fun q hq=>h3 q hq⟩
theorem E3{p q:(o:Out)->HT S o.vm->Prop}:∀{os:List Out} {y:jo S os},Cg os y p->(∀o z,o∈os->p o z->q o z)->Cg os y q
 |[],_,h,_=>h.elim
 |[o],y,h,hq=>hq o y aq h
 |o::_::_,Sum.inl z,h,hq=>hq o z aq h
 |_::o'::os,Sum.inr _,h,hq=>E3 (os:=o'::os) h fun o z ho=>hq o z (au _ ho)
theorem xx{n:Nat}{v:AV S}{σ0 σ:AS S}:∀{os:List Out} {y:jo S os},cl tb n v σ0 σ os=some y->Cg os y fun o z=>finish tb n o v σ0 σ=some z
 |[],_,h=>by cases h
 |[o],y,h=>h
 |o::p::os,y,h=>by
  unfold cl at h;split at h
  . rename_i z hz;cases h;exact hz
  . obtain⟨z,hz,rfl⟩:=ab.1 h;exact xx (os:=p::os) hz
theorem AH{α:Type}{p:(o:Out)->HT S o.vm->Prop}{q:α->(o:Out)->HT S o.vm->Prop}:∀{os:List Out} {y:jo S os},Cg os y p->(∀o z,o∈os->p o z->∃x,q x o z)->∃x,Cg os y (q x)
 |[],_,h,_=>h.elim
 |[o],y,h,hq=>hq o y aq h
 |o::_::_,Sum.inl z,h,hq=>hq o z aq h
 |_::o'::os,Sum.inr _,h,hq=>AH (os:=o'::os) h fun o z ho=>hq o z (au _ ho)
def Na(K:ep tb)(n:Nat)(o:Out)(bk:Nat->Option Gh)(L:List bR)(y:HT S o.vm)(v:Value)(m':Mem)(L':List bR):Prop:=
 ∃(Iu:Nat->Option Gh) (Ln:List bR),L'=oy o.gu L++Ln/\(∀i,i<n->Iu i=bk i)/\(∀i,o.gu.length<=i->Iu i=none)/\
  ∀(g:GG S) (ids:Nat->Nat) (ds:List (ic S)) (out:AV S) (ds1:List (ic S)) (l:List (Nat×AO S)),(∀i h,Iu i=some h->g.bk (ids i)=some h)->ni o.Iu (qB o.vm y)=some ds->PS.fill tb ids o.out ds=some (out,ds1)->OS.outs tb ids 0 o.gu ds1=some l->
   bP K g m' out v/\B6 K g m' l Ln
def b6(K:ep tb)(c:dS S)(bk:Nat->Option Gh)(L:List bR)(y:jo S c.outs)(v:Value)(m':Mem)(L':List bR):Prop:=Cg c.outs y fun o z=>Na K c.fm.length o bk L z v m' L'
def sy(P:Program)(f:FuncId)(vals:List Value)(w:World)(R:Ending->World->Prop):Prop:=
 if f<=999999 then Enters P f/\Calls P f vals.toArray w R
 else ∃l args fn tmps fC body,vals=.func (.yield l) #[] #[]::args/\(Instr.yield l args.toArray).run P w=.ok (.round l fn tmps fC body) w/\RoundIn (FW none) 0 P l fn tmps fC body w R
theorem sy.mono{P:Program}{f:FuncId}{vals:List Value}{w:World}{R R':Ending->World->Prop}(h:sy P f vals w R)(hr:∀e w',R e w'->R' e w'):sy P f vals w R':=by
 unfold sy at*
 split at h
 . rename_i hf;rw[if_pos hf];exact⟨h.1,Calls.mono h.2 hr⟩
 . rename_i hf;rw[if_neg hf];obtain⟨l,args,fn,tmps,fC,body,h1,h2,h3⟩:=h;exact⟨l,args,fn,tmps,fC,body,h1,h2,h3.mono hr⟩
theorem jM{t:Nat}:∀{l:List Nat},has t l=true↔t∈l
 |[]=>by simp[has]
 |u::l=>by
  unfold has;by_cases h:u=t
  . subst h;simp
  . rw[mT h];simp only[jM,aB];exact⟨.inr,fun h'=>h'.resolve_left fun e=>h e.symm⟩
theorem iR:∀{l:List Nat},gD l=true->l.Nodup
 |[],_=>List.nodup_nil
 |x::l,h=>by
  unfold gD at h;split at h
  . cases h
  . rename_i hx;exact List.nodup_cons.2 ⟨fun hm=>(by rw[jM.2 hm]at hx;cases hx),iR h⟩
def NC.Nat(c:NC S):Prop:=∀(γ γ':Type) (φ:γ->γ') (_:∀x y,φ x=φ y->x=y) (k:HT S c.out.vm->Option γ) (k':HT S c.out.vm->Option γ') (_:∀y,k' y=(k y).map φ) (x:HT S c.ls),c.Xf γ' k' x=(c.Xf γ k x).map φ
structure mS(P:Program)(K:ep tb)(c:NC S):Prop where
 nat:c.Nat
 go:∀(x:HT S c.ls) (γ:Type) (k:HT S c.out.vm->Option γ) (z:γ) (bk:Nat->Option Gh) (m:Mem) (vals:List Value) (L:List bR),c.Xf γ k x=some z->(∀i,c.fm.length<=i->bk i=none)->
  (∀ds args ds1 fm ds2,ni c.bk (qB c.ls x)=some ds->PS.eS tb id c.ins ds=some (args,ds1)->OS.eS tb id c.fm ds1=some (fm,ds2)->db K (Q3 bk) m args vals/\KN K (Q3 bk) m id 0 fm L)->L.length=c.fm.length->Ow m L->K.B m->
  sy P c.f vals m.w fun e w'=>∃y v m' L',k y=some z/\e=.returned v/\m'.w=w'/\St (bK L) m m' L'/\Na K c.fm.length c.out bk L y v m' L'
def KJ(P:Program)(K:ep tb){γ:Type}(f:FuncId)(args:List (AV S))(ob:List (_root_.Nat×_root_.Nat×AO S))(ct:_root_.Nat)(k:ia S->Option γ)(z:γ):Prop:=∃rd rm:List _root_.Nat,(rd++rm).Nodup/\
 ∀(g:GG S) (m:Mem) (vals:List Value) (Lr Lm:List bR),iE g ct->K.B m->db K g m args vals->eW K g m (pick ob rd) Lr->eW K g m (pick ob rm) Lm->Ow m (Lr++Lm)->
  sy P f vals m.w fun e w'=>∃v res,e=.returned v/\k res=some z/\res.rd=rd/\res.rm=rm/\res.add.length<=31/\AA K g m ct Lr Lm res v w'
structure Sound(P:Program)(K:ep tb)(c:dS S):Prop where
 go:∀(x:HT S c.ls) (y:jo S c.outs) (bk:Nat->Option Gh) (m:Mem) (vals:List Value) (L:List bR),c.uU x=some y->(∀i,c.fm.length<=i->bk i=none)->
  (∀ds args ds1 fm ds2,ni c.bk (qB c.ls x)=some ds->PS.eS tb id c.ins ds=some (args,ds1)->OS.eS tb id c.fm ds1=some (fm,ds2)->db K (Q3 bk) m args vals/\KN K (Q3 bk) m id 0 fm L)->L.length=c.fm.length->Ow m L->K.B m->
  sy P c.f vals m.w fun e w'=>∃v m' L',e=.returned v/\m'.w=w'/\St (bK L) m m' L'/\b6 K c bk L y v m' L'
section
variable {g:GG S}{m:Mem}{ob:List (Nat×Nat×AO S)}{mp:List (Nat×Nat)}
theorem tA:∀{l:List KS} {o n:Nat} {Lr Lm:List bR},n<=l.length->(∀i,o<=i->i<o+n->∃q a,look i mp=some q/\look q ob=some a)->(∀i q,look i mp=some q->i<o+n)->
 eW K g m (pick ob (eZ mp true o l)) Lr->eW K g m (pick ob (eZ mp false o l)) Lm->∃L,eW K g m (pick ob (zQ mp o n)) L/\List.Perm L (Lr++Lm)/\oy l L=Lr/\L.length=n
 |[],o,n,Lr,Lm,hn,h1,h2,hr,hm=>by
  simp only[List.length_nil,Nat.le_zero_eq]at hn;subst hn;simp only[eZ,pick,eW]at hr hm;subst hr;subst hm;exact⟨[],rfl,List.Perm.refl _,rfl,rfl⟩
 |s::l,o,0,Lr,Lm,hn,h1,h2,hr,hm=>by
  have hN:look o mp=none:=by
   cases h:look o mp with
   |none=>rfl
   |some q=>have:=h2 o q h;omega
  simp only[eZ,hN]at hr hm;obtain⟨L,k1,k2,k3,k4⟩:=tA (n:=0) (Nat.zero_le _) (fun i a b=>by omega) (fun i q h=>by have:=h2 i q h;omega) hr hm;have:L=[]:=List.length_eq_zero_iff.1 k4;subst this;refine⟨[],k1,k2,?_,rfl⟩;have hLr:Lr=[]:=by
   have:=k2.length_eq;simp only[List.length_nil,ay]at this;exact List.length_eq_zero_iff.1 (by omega)
  rw[hLr];cases s<;>rfl
 |s::l,o,n+1,Lr,Lm,hn,h1,h2,hr,hm=>by
  obtain⟨q,a,hq,ha⟩:=h1 o (by omega) (by omega);have hn':n<=l.length:=by simpa using hn
  have h1':∀i,o+1<=i->i<o+1+n->∃q a,look i mp=some q/\look q ob=some a:=fun i a b=>h1 i (by omega) (by omega)
  have h2':∀i q,look i mp=some q->i<o+1+n:=fun i q h=>by have:=h2 i q h;omega
  simp only[eZ,hq]at hr hm
  cases hs:s.isK with
  |true=>
   simp only[hs,beq_self_eq_true,pick,ha,eW]at hr
   obtain⟨e,Lr',rfl,g1,g2,g3⟩:=hr
   have hm':eW K g m (pick ob (eZ mp false (o+1) l)) Lm:=by simpa[hs]using hm
   obtain⟨L,k1,k2,k3,k4⟩:=tA hn' h1' h2' g3 hm'
   refine⟨e::L,?_,?_,?_,by simp[k4]⟩
   . simp only[zQ,hq,pick,ha,eW];exact⟨e,L,rfl,g1,g2,k1⟩
   . exact k2.cons e
   . cases s<;>first|(cases hs;done)|skip
     simp only[oy,k3]
  |false=>
   simp only[hs,beq_self_eq_true,pick,ha,eW]at hm
   obtain⟨e,Lm',rfl,g1,g2,g3⟩:=hm
   have hr':eW K g m (pick ob (eZ mp true (o+1) l)) Lr:=by simpa[hs]using hr
   obtain⟨L,k1,k2,k3,k4⟩:=tA hn' h1' h2' hr' g3
   refine⟨e::L,?_,?_,?_,by simp[k4]⟩
   . simp only[zQ,hq,pick,ha,eW];exact⟨e,L,rfl,g1,g2,k1⟩
   . exact(k2.cons e).trans List.perm_middle.symm
   . cases s<;>first|(cases hs;done)|simp only[oy,k3]
theorem tG{ids:Nat->Nat}:∀{l:List KS} {o:Nat} {ds:List (ic S)} {r:List (Nat×AO S)},OS.outs tb ids o l ds=some r->r.length<=l.length
 |[],o,ds,r,h=>by
  cases ds with
  |nil=>simp only[OS.outs,af]at h;subst h;simp
  |cons=>simp[OS.outs]at h
 |.now s::l,o,ds,r,h=>by
  simp only[OS.outs]at h;obtain⟨p,hp,h⟩:=aa.1 h;obtain⟨q,hq,rfl⟩:=ab.1 h;have:=tG hq;simp;omega
 |.kept::l,o,ds,r,h=>by
  simp only[OS.outs]at h;have:=tG h;simp;omega
 |.gone::l,o,ds,r,h=>by
  simp only[OS.outs]at h;have:=tG h;simp;omega
theorem OU{B B':List Nat}{m0 m:Mem}{L:List bR}(h:St B m0 m L)(hb:∀b,b∈B↔b∈B'):St B' m0 m L:=
 ⟨h.le,fun b h1 h2=>h.kept b h1 fun h3=>h2 ((hb b).1 h3),fun b o h1=>(h.news b o h1).imp id (fun h2=>h2.imp id (hb b).1),h.ow,fun b h1=>(h.mQ b h1).imp (hb b).1 id⟩
end
section
variable {P:Program}{ob:List (Nat×Nat×AO S)}{ct:Nat}{γ:Type}{k:ia S->Option γ}{r:γ}{f:FuncId}{args:List (AV S)}
theorem sZ:∀{Φ:List (dS S)},(∀c∈Φ,Sound P K c)->o8 tb f args ob ct k Φ=some r->∃res,k res=some r/\res.add.length<=31/\
 ∀(g:GG S) (m:Mem) (vals:List Value) (Lr Lm:List bR),iE g ct->K.B m->db K g m args vals->eW K g m (pick ob res.rd) Lr->eW K g m (pick ob res.rm) Lm->Ow m (Lr++Lm)->
  sy P f vals m.w fun e w'=>∃v,e=.returned v/\AA K g m ct Lr Lm res v w'
 |[],_,h=>by simp[o8]at h
 |c::cs,hΦ,h=>by
  simp only[o8]at h;split at h
  . exact sZ (fun c hc=>hΦ c (au _ hc)) h
  . rename_i hcf;have hcf:=ah hcf;split at h
    . exact sZ (fun c hc=>hΦ c (au _ hc)) h
    . rename_i x mp hx;have hS:=hΦ c aq;obtain⟨⟨pd,mp0⟩,hp,hx1⟩:=aa.1 hx;obtain⟨⟨qd,mp1⟩,hq,hx2⟩:=aa.1 hx1;obtain⟨ds,hds,hx3⟩:=aa.1 hx2;obtain⟨x',hx',hx4⟩:=ab.1 hx3;simp only[aA]at hx4;obtain⟨rfl,rfl⟩:=hx4;clear hx hx1 hx2 hx3;obtain⟨y,hy,h1⟩:=aa.1 h;obtain⟨o,z,ho,h1,hy2⟩:=Gf (E2 h1);split at h1
      . rename_i v l hvl;obtain⟨u,hchk,hvl1⟩:=aa.1 hvl;obtain⟨ds',hds',hvl2⟩:=aa.1 hvl1;obtain⟨⟨out,ds1⟩,hout,hvl3⟩:=aa.1 hvl2;obtain⟨l',hl',hvl4⟩:=ab.1 hvl3;simp only[aA]at hvl4;obtain⟨rfl,rfl⟩:=hvl4;have hfew:=c.uB;simp only[al]at hfew;have hf1:=aj (aE.1 hfew.2 o ho);have hf2:=aj o.uB;refine⟨_,h1,Nat.le_trans (tG hl') (by omega),fun g m vals Lr Lm hF hB hA hR hM hO=>?_⟩;have hkey:∀i q,look i mp1=some q->i<c.fm.length:=fun i q hi=>by
         unfold VK at hchk;split at hchk
         . rename_i hb;have:=aj (aE.1 hb _ (gl hi));exact this
         . cases hchk
        obtain⟨s1,s2,s3⟩:=PS.kf hp hA;obtain⟨t1,t2,t3⟩:=OS.oM hq;have hMp:=t2 (s2 jr.nil);obtain⟨L,k1,k2,k3,k4⟩:=tA (o:=0) (n:=c.fm.length) hf1 (fun i a b=>t3 i a (by omega)) (fun i q hi=>by have:=hkey i q hi;omega) hR hM;have hRen:Ren mp1 g (Q3 fun i=>(look i mp1).bind g.bk) id:=fun o q h ho hb=>by
         show((look o mp1).bind g.bk)=some h;rw[ho];exact hb
        have hdx:=CL hx';have key:=hS.go x' y (fun i=>(look i mp1).bind g.bk) m vals L hy (fun i hi=>by
         cases hl:look i mp1 with
         |none=>rfl
         |some q=>have:=hkey i q hl;omega) (fun ds2 args2 ds3 obs2 ds4 e1 e2 e3=>by
          rw[hdx]at e1;have:=uS c.X1 hds e1;subst this;obtain⟨rfl,j2⟩:=s3 _ _ _ _ _ (hRen.sub t1) e2;obtain⟨_,j3,_⟩:=OS.uZ hq (Sub.refl _) k1 _ _ [] _ _ hRen (by rw[aW];exact e3);exact⟨j2,j3⟩) k4 (hO.perm k2.symm) hB
        rw[hcf]at key;refine key.mono fun e w' ⟨v',m',L',q1,q2,q3,q4⟩=>⟨v',q1,?_⟩
        obtain⟨Iu,Ln,rfl,b1,b2,b3⟩:=hy2 _ q4;rw[k3]at q3;let g2:GG S:={g with bk:=fun i=>if ct+1<=i/\i<ct+32 then(match look (i-(ct+1)) mp1 with|some _=>g.bk i|none=>Iu (i-(ct+1)))else g.bk i};have hge:GE g g2:=⟨fun i z hz=>by
         show(if _ then _ else _)=_;rw[if_neg fun hh=>by have:=(hF i (by omega) (by omega)).1;rw[this]at hz;cases hz];exact hz,fun _ _ h=>h,fun _ _ h=>h⟩
        obtain⟨c1,c2⟩:=b3 g2 (oZ mp1 ct) ds' out ds1 l' (fun i z hz=>by
         unfold oZ;split
         . rename_i q hq';have:Iu i=g.bk q:=by
            rw[b1 i (hkey i q hq')];show(look i mp1).bind g.bk=_;rw[hq'];rfl
           exact hge.bk _ _ (by rw[<- this];exact hz)
         . rename_i hn;have hi:i<o.gu.length:=Nat.lt_of_not_le fun h'=>by rw[b2 i h']at hz;cases hz
           show(if _ then _ else _)=_;rw[if_pos (by omega),show ct+1+i-(ct+1)=i by omega,hn];exact hz) hds' hout hl'
        refine⟨m',g2,Ln,q2,OU q3 (fun b=>?_),hge,rfl,rfl,fun i hi=>?_,c2,c1⟩
        . rw[dg,dg];exact⟨fun⟨e,h1,h2⟩=>⟨e,k2.mem_iff.1 h1,h2⟩,fun⟨e,h1,h2⟩=>⟨e,k2.mem_iff.2 h1,h2⟩⟩
        . refine bm fun hn=>hi ?_
          show(if _ then _ else _)=_;rw[if_neg hn]
      . cases h1
theorem uM:∀{Ψ:List (NC S)},(∀c∈Ψ,mS P K c)->mb tb f args ob ct k Ψ=some r->KJ P K f args ob ct k r
 |[],_,h=>by simp[mb]at h
 |c::cs,hΨ,h=>by
  simp only[mb]at h;split at h
  . exact uM (fun c hc=>hΨ c (au _ hc)) h
  . rename_i hcf;have hcf:=ah hcf;split at h
    . exact uM (fun c hc=>hΨ c (au _ hc)) h
    . rename_i x mp hx;have hS:=hΨ c aq;obtain⟨⟨pd,mp0⟩,hp,hx1⟩:=aa.1 hx;obtain⟨⟨qd,mp1⟩,hq,hx2⟩:=aa.1 hx1;obtain⟨ds,hds,hx3⟩:=aa.1 hx2;obtain⟨x',hx',hx4⟩:=ab.1 hx3;simp only[aA]at hx4;obtain⟨rfl,rfl⟩:=hx4;clear hx hx1 hx2 hx3;obtain⟨u,hchk,hy⟩:=aa.1 h;have hchk:((mp1.all fun p=>Nat.ble (p.1+1) c.fm.length)&&gD (eZ mp1 true 0 c.out.gu++eZ mp1 false 0 c.out.gu))=true:=by
       unfold VK at hchk;split at hchk
       . rename_i hb;exact hb
       . cases hchk
      simp only[al]at hchk;have hfew:=c.uB;simp only[al]at hfew;have hf1:=aj hfew.2;have hf2:=aj c.out.uB;refine⟨eZ mp1 true 0 c.out.gu,eZ mp1 false 0 c.out.gu,iR hchk.2,fun g m vals Lr Lm hF hB hA hR hM hO=>?_⟩;have hkey:∀i q,look i mp1=some q->i<c.fm.length:=fun i q hi=>by
       exact aj (aE.1 hchk.1 _ (gl hi))
      obtain⟨s1,s2,s3⟩:=PS.kf hp hA;obtain⟨t1,t2,t3⟩:=OS.oM hq;have hMp:=t2 (s2 jr.nil);obtain⟨L,k1,k2,k3,k4⟩:=tA (o:=0) (n:=c.fm.length) hf1 (fun i a b=>t3 i a (by omega)) (fun i q hi=>by have:=hkey i q hi;omega) hR hM;have hRen:Ren mp1 g (Q3 fun i=>(look i mp1).bind g.bk) id:=fun o q h ho hb=>by
       show((look o mp1).bind g.bk)=some h;rw[ho];exact hb
      have hdx:=CL hx';have key:=hS.go x' _ _ _ (fun i=>(look i mp1).bind g.bk) m vals L hy (fun i hi=>by
       cases hl:look i mp1 with
       |none=>rfl
       |some q=>have:=hkey i q hl;omega) (fun ds2 args2 ds3 obs2 ds4 e1 e2 e3=>by
        rw[hdx]at e1;have:=uS c.X1 hds e1;subst this;obtain⟨rfl,j2⟩:=s3 _ _ _ _ _ (hRen.sub t1) e2;obtain⟨_,j3,_⟩:=OS.uZ hq (Sub.refl _) k1 _ _ [] _ _ hRen (by rw[aW];exact e3);exact⟨j2,j3⟩) k4 (hO.perm k2.symm) hB
      rw[hcf]at key;refine key.mono fun e w' ⟨y,v',m',L',hky,q1,q2,q3,q4⟩=>?_
      split at hky
      case h_2=>cases hky
      case h_1 out l' hvl=>
      obtain⟨ds',hds',hvl2⟩:=aa.1 hvl;obtain⟨⟨out',ds1⟩,hout,hvl3⟩:=aa.1 hvl2;obtain⟨l2,hl',hvl4⟩:=ab.1 hvl3;simp only[aA]at hvl4;obtain⟨rfl,rfl⟩:=hvl4;refine⟨v',_,q1,hky,rfl,rfl,Nat.le_trans (tG hl') (by omega),?_⟩;obtain⟨Iu,Ln,rfl,b1,b2,b3⟩:=q4;rw[k3]at q3;let g2:GG S:={g with bk:=fun i=>if ct+1<=i/\i<ct+32 then(match look (i-(ct+1)) mp1 with|some _=>g.bk i|none=>Iu (i-(ct+1)))else g.bk i};have hge:GE g g2:=⟨fun i z hz=>by
       show(if _ then _ else _)=_;rw[if_neg fun hh=>by have:=(hF i (by omega) (by omega)).1;rw[this]at hz;cases hz];exact hz,fun _ _ h=>h,fun _ _ h=>h⟩
      obtain⟨c1,c2⟩:=b3 g2 (oZ mp1 ct) ds' out' ds1 l2 (fun i z hz=>by
       unfold oZ;split
       . rename_i q hq';have:Iu i=g.bk q:=by
          rw[b1 i (hkey i q hq')];show(look i mp1).bind g.bk=_;rw[hq'];rfl
         exact hge.bk _ _ (by rw[<- this];exact hz)
       . rename_i hn;have hi:i<c.out.gu.length:=Nat.lt_of_not_le fun h'=>by rw[b2 i h']at hz;cases hz
         show(if _ then _ else _)=_;rw[if_pos (by omega),show ct+1+i-(ct+1)=i by omega,hn];exact hz) hds' hout hl'
      refine⟨m',g2,Ln,q2,OU q3 (fun b=>?_),hge,rfl,rfl,fun i hi=>?_,c2,c1⟩
      . rw[dg,dg];exact⟨fun⟨e,h1,h2⟩=>⟨e,k2.mem_iff.1 h1,h2⟩,fun⟨e,h1,h2⟩=>⟨e,k2.mem_iff.2 h1,h2⟩⟩
      . refine bm fun hn=>hi ?_
        show(if _ then _ else _)=_;rw[if_neg hn]
theorem K8{Φ:List (dS S)}(hΦ:∀c∈Φ,Sound P K c){kk:ia S->Option γ}(h:o8 tb f args ob ct (fun r'=>match gD (r'.rd++r'.rm)with|true=>kk r'|false=>none) Φ=some r):KJ P K f args ob ct kk r:=by
 obtain⟨res,h1,h2,h4⟩:=sZ hΦ h;split at h1
 . rename_i hn;exact⟨res.rd,res.rm,iR hn,fun g m vals Lr Lm hF hB hA hR hM hO=>(h4 g m vals Lr Lm hF hB hA hR hM hO).mono fun e w' ⟨v,hv,hD⟩=>⟨v,res,hv,h1,rfl,rfl,h2,hD⟩⟩
 . cases h1
theorem mz{g:GG S}{m:Mem}:∀{aS bs:List (AV S)} {us vs:List Value},db K g m aS us->db K g m bs vs->db K g m (aS++bs) (us++vs)
 |[],bs,us,vs,h,h'=>by simp only[db]at h;subst h;exact h'
 |a::aS,bs,us,vs,h,h'=>by
  simp only[db]at h;obtain⟨x,r,rfl,h1,h2⟩:=h;simp only[aV,db];exact⟨x,r++vs,rfl,h1,mz h2 h'⟩
theorem VA{g:GG S}{m:Mem}{v:CV S}{u:Value}(h:bM K g m v [u]\/Q0 K g m v u):bP K g m (yL v) u:=by
 rcases h with h|h
 . cases v<;>first|(simp only[yL,bP];exact h)|(simp only[bM]at h)
 . cases v<;>first|(simp only[Q0]at h;done)|skip;simp only[Q0]at h;obtain⟨cs,h1,h2⟩:=h;simp only[yL,bP];exact⟨cs,h1,xe.1 h2⟩
theorem nG{g:GG S}{m:Mem}:∀{vs:List (CV S)} {us:List Value},iK K g m vs us->db K g m (vs.map yL) us
 |[],us,h=>by simp only[iK]at h;subst h;simp only[bp,db]
 |v::vs,us,h=>by
  simp only[iK]at h;obtain⟨u,us',rfl,h1,h2⟩:=h;simp only[aF,db];exact⟨u,us',rfl,VA h1,nG h2⟩
theorem uq{g:GG S}{m:Mem}{a:Act}:∀{l:List Operand} {xs:List (AV S)},oT K g m a l xs->db K g m xs (l.map a.eval)
 |[],xs,h=>by simp only[oT]at h;subst h;simp only[bp,db]
 |x::l,xs,h=>by
  obtain⟨v,vs,rfl,h1,h2⟩:=h;simp only[aF,db];exact⟨_,_,rfl,h1,uq h2⟩
theorem Hj{o:Oper}{Φ:List (dS S)}(hΦ:∀c∈Φ,Sound P K c){y:Operand}{ops:Array Operand}{ts:Array TypeId}(ho:o.op=.call ⟨.value y,ops,ts⟩){f:FuncId}{first caps:List (CV S)}{xs:List (AV S)}(hf:f<=999999)
 (h:o8 tb f (first.map yL++xs++caps.map yL) ob ct k Φ=some r):dT P K o (.one (.fn (.func f) first caps)::xs) ob ct k r:=by
 have hox:o.op.operands.toList=y::ops.toList:=by rw[ho];simp[Op.operands,Call.operands]
 obtain⟨res,h1,h2,h4⟩:=sZ hΦ h
 refine⟨res,h1,h2,fun g a m Lr Lm hF hB ha hR hM hO=>?_⟩
 rw[hox]at ha
 obtain⟨v,vs,e,a1,a2⟩:=ha
 cases e
 simp only[bP,bM]at a1
 obtain⟨v1,v2,e1,a3,a4⟩:=a1
 have key:=h4 g m _ Lr Lm hF hB (mz (mz (nG a3) (uq a2)) (nG a4)) hR hM hO
 unfold sy at key
 rw[if_pos hf]at key
 obtain⟨h3,key⟩:=key
 have hrun:(execOp a.eval o).run P m.w=.ok (.enter f (v1++ops.toList.map a.eval++v2).toArray) m.w:=by
  unfold execOp;have e2:a.eval y=.func (.func f) v1.toArray v2.toArray:=by simpa using e1
  simp only[ho,resolve,e2,Deferred.ofValue,Sem.run_bind,Sem.run_pure,Result.andThen_ok,invoke];rw[h3];congr 2;apply Array.ext';simp
 unfold bI
 rw[hrun]
 exact key
theorem Tu{o:Oper}{Φ:List (dS S)}(hΦ:∀c∈Φ,Sound P K c){y:Operand}{ops:Array Operand}{ts:Array TypeId}(ho:o.op=.call ⟨.value y,ops,ts⟩){q rr:Nat}{xs:List (AV S)}
 (h:o8 tb (Z4 rr) (.one (.yl q)::xs) ob ct k Φ=some r):dT P K o (.one (.yl q)::xs) ob ct k r:=by
 have hox:o.op.operands.toList=y::ops.toList:=by rw[ho];simp[Op.operands,Call.operands]
 obtain⟨res,h1,h2,h4⟩:=sZ hΦ h
 refine⟨res,h1,h2,fun g a m Lr Lm hF hB ha hR hM hO=>?_⟩
 rw[hox]at ha
 obtain⟨v,vs,e,a1,a2⟩:=ha
 cases e
 simp only[bP,bM]at a1
 obtain⟨gh,l0,e1,e2,e3⟩:=a1
 have key:=h4 g m (a.eval y::ops.toList.map a.eval) Lr Lm hF hB (by simp only[db];exact⟨_,_,rfl,by simp only[bP,bM];exact⟨gh,l0,e1,e2,e3⟩,uq a2⟩) hR hM hO
 unfold sy at key
 rw[if_neg (show ¬ (Z4 rr<=999999) from Nat.not_le.2 (show 999999<1000000+rr from by omega))]at key
 obtain⟨l,args,fn,tmps,fC,body,k1,k2,k3⟩:=key
 simp only[bc]at k1
 obtain⟨k1,rfl⟩:=k1
 have hrun:(execOp a.eval o).run P m.w=.ok (.round l fn tmps fC body) m.w:=by
  unfold execOp;simp only[ho,resolve,k1,Deferred.ofValue,Sem.run_bind,Sem.run_pure,Result.andThen_ok,invoke];have e4:((ops.toList.map a.eval).toArray:Array Value)=ops.map a.eval:=by apply Array.ext';simp
  rw[e4]at k2;simpa using k2
 unfold bI
 rw[hrun]
 exact k3
end
end E
end
section
open Go.RowKit G
open Go.ChangeMaps (setBlock heap_setBlock_same heap_setBlock_other)
namespace E
variable {S:Nat->Type}{tb:Tb S}{K:ep tb}{P:Program}{o:Oper}{xs:List (AV S)}{ob:List (Nat×Nat×AO S)}{ct:Nat}{γ:Type}{k:ia S->Option γ}{r:γ}{tt:TypeId->Option (TI S)}{g:GG S}{m:Mem}
theorem oE(hT:dx P K tt){t:TypeId}{i:Co×Co×TI S}(h:jB tb tt t=some i):
 ∃kt et,P.underlying t=some (.map kt et)/\tt et=some i.2.2/\Dg tb i.1=true/\O2 i.2.1=true/\fu i.2.2.d=false/\fS P kt (fun x v=>∃m,dv K i.1 m x v) (iX tb i.1):=by
 unfold jB at h
 obtain⟨ti,hti,h⟩:=aa.1 h
 split at h
 . rename_i kt et kc vc hd hc
   obtain⟨ei,hei,h⟩:=aa.1 h
   split at h
   . rename_i hk
     cases h
     simp only[al,Bool.not_eq_true']at hk
     have htd:=(hT.ty t ti hti).td
     rw[hd]at htd
     exact⟨kt,et,htd,hei,hk.1,hk.2.1,hk.2.2,hT.mp t ti kt et kc vc hti hd hc hk.1⟩
   . cases h
 . cases h
theorem qH{c:Co}(hc:∀i,c≠ .st i){x:T S c}{v:Value}:dv K c m x v↔RK K c m x [v]:=by
 cases c<;>first|exact Iff.rfl|exact absurd rfl (hc _)
theorem jU{c:Co}{a:AV S}{cs:List (CV S)}{x:T S c}{v:Value}(h1:nh c a=some cs)(h2:BU tb c cs=some x)(hv:bP K g m a v):dv K c m x v:=by
 by_cases hs:∃i,c=.st i
 . obtain⟨i,rfl⟩:=hs;cases a<;>simp only[nh]at h1
   . cases h1
   . cases h1;simp only[bP]at hv;obtain⟨us,rfl,hv⟩:=hv;exact⟨us,rfl,tJ h2 hv⟩
   . cases h1
 . have hc:∀i,c≠ .st i:=fun i e=>hs ⟨i,e⟩
   rw[qH hc]
   cases a with
   |one u=>
    have:nh c (.one u)=some [u]:=by cases c<;>first|rfl|exact absurd rfl (hc _)
    rw[this]at h1;cases h1
    simp only[bP]at hv
    exact tJ h2 (jd hv)
   |agg us=>cases c<;>simp[nh]at h1;exact absurd rfl (hc _)
   |dD us=>cases c<;>simp[nh]at h1
theorem yA{c:Co}(h:O2 c=true):∀i,c≠ .st i:=fun i e=>by subst e;cases h
theorem qT{c:Co}(h:O2 c=true):Hf c=true:=by cases c<;>first|rfl|cases h
theorem yF(hT:dx P K tt){et:TypeId}{ei:TI S}(hei:tt et=some ei)(hA:fu ei.d=false){c:Co}{z:T S c}(hz:BU tb c ei.zero=some z){w:World}:RK K c m z [zeroOf ei]/\(zeroValue et).run P w=.ok (zeroOf ei) w:=by
 have hty:=hT.ty et ei hei;have h1:(jc ei.zero).length=1:=by rw[hty.len,hty.one hA]
 have h2:jc ei.zero=[zeroOf ei]:=by
  unfold zeroOf;rw[hA]
  match hq:jc ei.zero,h1 with
  |[u],_=>rfl
 refine⟨by rw[<- h2];exact tJ (g:=⟨fun _=>none,fun _=>none,fun _=>none⟩) hz (kQ hty.VO),mH ?_⟩;obtain⟨inf,j1,j2,_⟩:=info_parts hty.info;simp[j1,j2]
theorem wh(hT:dx P K tt){t:TypeId}(ho:o.op=.makeMap t none){i:Co×Co×TI S}(hi:jB tb tt t=some i)(h:k {v:=.one (.mp (ct+1)),add:=[(ct+1,.map t i.1 i.2.1 [] none)]}=some r):dT P K o [] ob ct k r:=by
 refine⟨_,h,by simp,fun g a m Lr Lm hf _ ha hr hm hO=>?_⟩;simp only[pick,eW]at hr hm;subst hr;subst hm;refine zZ (Ke.nil a) (St.refl (Ow.nil m)) ho fun m' b hle hS=>?_
 have hg:=GG.gw (x:=⟨some b,none,0,0,default⟩) (hf (ct+1) (by omega) (by omega)).1;refine⟨m',g.jm (ct+1) ⟨some b,none,0,0,default⟩,[.obj b (.map #[] 0)],rfl,by simpa using hS,hg,rfl,rfl,GG.eU,⟨_,[],rfl,⟨_,b,#[],0,GG.cM,rfl,rfl,jZ.nil,trivial⟩,rfl⟩,?_⟩;simp only[bP,bM];exact⟨_,b,GG.cM,rfl,rfl⟩
theorem qJ{q ver b:Nat}{gh:Gh}{t:TypeId}{kc vc:Co}{l:List (T S kc×T S vc)}{hole:Option (T S kc×Nat)}{L:List bR}(hr:eW K g m (pick ob [q]) L)(hq:look q ob=some (ver,.map t kc vc l hole))(hO:Ow m L)(k1:g.bk q=some gh)(k2:gh.g=some b):
 ∃es clock,L=[.obj b (.map es clock)]/\m.w.heap[b]?=some (.map es clock)/\jZ (dv K kc m) (fun y v=>RK K vc m y [v]) es clock l/\MJ K g m kc es hole:=by
 obtain⟨e,rfl,_,hob⟩:=dA hr hq
 obtain⟨gh',b',es,clock,j1,j2,rfl,j4,j5⟩:=hob
 rw[k1]at j1;have e1:=ax j1;subst e1
 rw[k2]at j2;have e2:=ax j2;subst e2
 exact⟨es,clock,rfl,hO.ok _ aq,j4,j5⟩
theorem uK{q ver b q0:Nat}{gh:Gh}{t:TypeId}{kc vc:Co}{l:List (T S kc×T S vc)}{hole:Option (T S kc×Nat)}{L:List bR}(hr:eW K g m (pick ob [q]) L)(hq:look q ob=some (ver,.lD t kc vc l hole q0))(hO:Ow m L)(k1:g.bk q=some gh)(k2:gh.g=some b):
 ∃es gq,L=[.obj b (.map es gq.n)]/\m.w.heap[b]?=some (.map es gq.n)/\jZ (dv K kc m) (fun y v=>RK K vc m y [v]) es gq.n l/\MJ K g m kc es hole/\g.bk q0=some gq/\gq.cap=b/\es.toList.map (fun e=>(e.key,e.born))=gq.sk:=by
 obtain⟨e,rfl,_,hob⟩:=dA hr hq
 obtain⟨gh',b',es,gq,j1,j2,j3,j4,rfl,j5,j6,j7⟩:=hob
 rw[k1]at j1;have e1:=ax j1;subst e1
 rw[k2]at j2;have e2:=ax j2;subst e2
 exact⟨es,gq,rfl,hO.ok _ aq,j5,j6,j3,j4,j7⟩
theorem zL(hT:dx P K tt){t:TypeId}{x y:Operand}{c:Bool}(ho:o.op=.lookup t x y c){v:CV S}{key:AV S}(h:FB tb tt t v key c ob k=some r):dT P K o [.one v,key] ob ct k r:=by
 have hox:o.op.operands.toList=[x,y]:=by rw[ho];rfl
 unfold FB at h;obtain⟨⟨i1,i2,ei⟩,hi,h1⟩:=aa.1 h;simp only at h1;obtain⟨cs,hcs,h2⟩:=aa.1 h1;obtain⟨xk,hxk,h3⟩:=aa.1 h2;obtain⟨z,hz,h4⟩:=aa.1 h3;obtain⟨kt,et,hu,hei,hkc,hvc,hA,HK⟩:=oE hT hi;simp only at hei hkc hvc hA HK;split at h4
 . rename_i q;obtain⟨⟨ver,ao⟩,hq,h5⟩:=aa.1 h4;split at h5
   . rename_i t' kc vc l hao;simp only at hao;subst hao;split at h5
     . rename_i hk hv he q1 q2;clear h h1 h2 h3 h4;cases hk;cases hv;refine⟨_,h5,by simp,fun g a m Lr Lm hf _ ha hr hm hO=>?_⟩;simp only[pick,eW]at hm;subst hm;rw[hox]at ha;obtain⟨hv,hw⟩:=eo ha;simp only[bP,bM]at hv;obtain⟨gh,b,k1,k2,k3⟩:=hv;have hx:a.eval x=.map (some b):=by simpa using k3
       obtain⟨es,clock,rfl,hb,hM,_⟩:=qJ hr hq (by simpa using hO) k1 k2;obtain⟨hz1,hz2⟩:=yF hT hei hA hz (m:=m) (w:=m.w);obtain⟨u,hu1,hu2⟩:=tQ HK hu hz2 hb (hM.mono (fun x v h=>(⟨m,h⟩:∃m,dv K i1 m x v)) fun _ _ h=>h) ⟨m,jU hcs hxk hw⟩ c;have hval:RK K i2 m ((gI (iX tb i1) l xk).getD z) [u]:=by
        cases hm:gI (iX tb i1) l xk with
        |none=>rw[hm]at hu1;subst hu1;exact hz1
        |some y=>rw[hm]at hu1;exact hu1
       have hrun:(execOp a.eval o).run P m.w=.ok (.value (if c then .tuple #[u,.bool (gI (iX tb i1) l xk).isSome]else u)) m.w:=by
        simp[execOp,ho,hx,hu2]
       refine bI.val hrun (AA.pure rfl (by simpa using hO) ?_);have hone:=toCV_ok (g:=g) (qT hvc) hval;unfold Hb;cases c
       . simp only[bP,iH];exact hone
       . simp only[bP,iH];exact⟨_,rfl,_,_,rfl,by simp only[bP];exact hone,_,_,rfl,by simp only[bP,VC,bM],rfl⟩
     . cases h5
   . rename_i t' kc vc l q0 hao;simp only at hao;subst hao;split at h5
     . rename_i hk hv he q1 q2;clear h h1 h2 h3 h4;cases hk;cases hv;refine⟨_,h5,by simp,fun g a m Lr Lm hf _ ha hr hm hO=>?_⟩;simp only[pick,eW]at hm;subst hm;rw[hox]at ha;obtain⟨hv,hw⟩:=eo ha;simp only[bP,bM]at hv;obtain⟨gh,b,k1,k2,k3⟩:=hv;have hx:a.eval x=.map (some b):=by simpa using k3
       obtain⟨es,gq,rfl,hb,hM,_⟩:=uK hr hq (by simpa using hO) k1 k2;obtain⟨hz1,hz2⟩:=yF hT hei hA hz (m:=m) (w:=m.w);obtain⟨u,hu1,hu2⟩:=tQ HK hu hz2 hb (hM.mono (fun x v h=>(⟨m,h⟩:∃m,dv K i1 m x v)) fun _ _ h=>h) ⟨m,jU hcs hxk hw⟩ c;have hval:RK K i2 m ((gI (iX tb i1) l xk).getD z) [u]:=by
        cases hm:gI (iX tb i1) l xk with
        |none=>rw[hm]at hu1;subst hu1;exact hz1
        |some y=>rw[hm]at hu1;exact hu1
       have hrun:(execOp a.eval o).run P m.w=.ok (.value (if c then .tuple #[u,.bool (gI (iX tb i1) l xk).isSome]else u)) m.w:=by
        simp[execOp,ho,hx,hu2]
       refine bI.val hrun (AA.pure rfl (by simpa using hO) ?_);have hone:=toCV_ok (g:=g) (qT hvc) hval;unfold Hb;cases c
       . simp only[bP,iH];exact hone
       . simp only[bP,iH];exact⟨_,rfl,_,_,rfl,by simp only[bP];exact hone,_,_,rfl,by simp only[bP,VC,bM],rfl⟩
     . cases h5
   . cases h5
 . cases h4
theorem GI{q b:Nat}{gh:Gh}{t:TypeId}{kc vc:Co}{l:List (T S kc×T S vc)}{es es':Array MapEntry}{clock clock':Nat}{v:AV S}{u:Value}(h1:g.bk q=some gh)(h2:gh.g=some b)(hO:Ow m [bR.obj b (.map es clock)])
 (hM:jZ (dv K kc m) (fun y v=>RK K vc m y [v]) es' clock' l) (hv:bP K g m v u):
 AA K g m ct [] [bR.obj b (.map es clock)] {v:=v,rm:=[q],add:=[(q,.map t kc vc l none)]} u (setBlock m.w b (.map es' clock')):=by
 have hb:m.w.heap[b]?=some (.map es clock):=hO.ok _ aq
 have hw:m.w.grownBy (setBlock m.w b (.map es' clock')) (some b):=⟨rfl,rfl,rfl,by simp[setBlock],fun i _ hi=>heap_setBlock_other hb _ (fun e=>hi (by rw[e]))⟩
 have hS:=(St.refl hO).lN hw (by simp[setBlock]) (heap_setBlock_same hb (.map es' clock'))
 have hle:=hS.le
 refine⟨_,g,[.obj b (.map es' clock')],rfl,by simpa using hS,GE.refl g,rfl,rfl,fun i h=>absurd rfl h,⟨_,[],rfl,⟨gh,b,es',clock',h1,h2,rfl,?_,trivial⟩,rfl⟩,hv.mono (GE.refl g) hle⟩
 exact hM.mono (fun _ _ h=>dv.mono K hle h) fun y _ h=>(cF K vc).mono h hle
theorem I3{q b q0:Nat}{gh gq:Gh}{t:TypeId}{kc vc:Co}{l:List (T S kc×T S vc)}{es es':Array MapEntry}{v:AV S}{u:Value}(h1:g.bk q=some gh)(h2:gh.g=some b)(h3:g.bk q0=some gq)(h4:gq.cap=b)(hO:Ow m [bR.obj b (.map es gq.n)])
 (hM:jZ (dv K kc m) (fun y v=>RK K vc m y [v]) es' gq.n l) (hs:es'.toList.map (fun e=>(e.key,e.born))=gq.sk) (hv:bP K g m v u):
 AA K g m ct [] [bR.obj b (.map es gq.n)] {v:=v,rm:=[q],add:=[(q,.lD t kc vc l none q0)]} u (setBlock m.w b (.map es' gq.n)):=by
 have hb:m.w.heap[b]?=some (.map es gq.n):=hO.ok _ aq
 have hw:m.w.grownBy (setBlock m.w b (.map es' gq.n)) (some b):=⟨rfl,rfl,rfl,by simp[setBlock],fun i _ hi=>heap_setBlock_other hb _ (fun e=>hi (by rw[e]))⟩
 have hS:=(St.refl hO).lN hw (by simp[setBlock]) (heap_setBlock_same hb (.map es' gq.n))
 have hle:=hS.le
 refine⟨_,g,[.obj b (.map es' gq.n)],rfl,by simpa using hS,GE.refl g,rfl,rfl,fun i h=>absurd rfl h,⟨_,[],rfl,⟨gh,b,es',gq,h1,h2,h3,h4,rfl,?_,trivial,hs⟩,rfl⟩,hv.mono (GE.refl g) hle⟩
 exact hM.mono (fun _ _ h=>dv.mono K hle h) fun y _ h=>(cF K vc).mono h hle
theorem Hm(hT:dx P K tt){t:TypeId}{x y z:Operand}(ho:o.op=.mapUpdate t x y z){v:CV S}{key w:AV S}(h:mf tb tt t v key w ob k=some r):dT P K o [.one v,key,w] ob ct k r:=by
 have hox:o.op.operands.toList=[x,y,z]:=by rw[ho];rfl
 unfold mf at h;obtain⟨⟨i1,i2,ei⟩,hi,h1⟩:=aa.1 h;simp only at h1;obtain⟨cs,hcs,h2⟩:=aa.1 h1;obtain⟨xk,hxk,h3⟩:=aa.1 h2;obtain⟨ws,hws,h3⟩:=aa.1 h3;obtain⟨yv,hyv,h4⟩:=aa.1 h3;obtain⟨kt,et,hu,hei,hkc,hvc,hA,HK⟩:=oE hT hi;simp only at hei hkc hvc hA HK;split at h4
 . rename_i q;obtain⟨⟨ver,ao⟩,hq,h5⟩:=aa.1 h4;split at h5
   . rename_i t' kc vc l hao;simp only at hao;subst hao;split at h5
     . rename_i hk hv he q1 q2;clear h h1 h2 h3 h4;cases hk;cases hv;refine⟨_,h5,by simp,fun g a m Lr Lm hf _ ha hr hm hO=>?_⟩;simp only[pick,eW]at hr;subst hr;rw[hox]at ha;obtain⟨hv,hw,hy⟩:=tF ha;simp only[bP,bM]at hv;obtain⟨gh,b,k1,k2,k3⟩:=hv;have hx:a.eval x=.map (some b):=by simpa using k3
       obtain⟨es,clock,rfl,hb,hM,_⟩:=qJ hm hq (by simpa using hO) k1 k2;have hyR:RK K i2 m yv [a.eval z]:=(qH (yA hvc)).1 (jU hws hyv hy);have hkR:=jU hcs hxk hw;have hH:fS P kt (dv K i1 m) (iX tb i1):=HK.sub fun x v h=>⟨m,h⟩
       obtain⟨es',clock',hrun,hM',_⟩:=BX hH hu hb hM hkR hyR;have hrun':(execOp a.eval o).run P m.w=.ok .skip (setBlock m.w b (.map es' clock')):=by
        simp[execOp,ho,hx,hrun]
       unfold bI;rw[hrun'];exact(GI k1 k2 (by simpa using hO) hM' (by simp[AV.gH,bP,db,undef]))
     . cases h5
   . rename_i t' kc vc l q0 hao;simp only at hao;subst hao;split at h5
     . rename_i hk hv he q1 q2;cases hk;cases hv;obtain⟨_,hck,h5⟩:=aa.1 h5;have hck:(gI (iX tb i1) l xk).isSome=true:=by
        unfold nW at hck;split at hck
        . rename_i hc;exact hc
        . cases hck
       clear h h1 h2 h3 h4;refine⟨_,h5,by simp,fun g a m Lr Lm hf _ ha hr hm hO=>?_⟩;simp only[pick,eW]at hr;subst hr;rw[hox]at ha;obtain⟨hv,hw,hy⟩:=tF ha;simp only[bP,bM]at hv;obtain⟨gh,b,k1,k2,k3⟩:=hv;have hx:a.eval x=.map (some b):=by simpa using k3
       obtain⟨es,gq,rfl,hb,hM,_,g3,g4,g5⟩:=uK hm hq (by simpa using hO) k1 k2;have hyR:RK K i2 m yv [a.eval z]:=(qH (yA hvc)).1 (jU hws hyv hy);have hkR:=jU hcs hxk hw;have hH:fS P kt (dv K i1 m) (iX tb i1):=HK.sub fun x v h=>⟨m,h⟩
       obtain⟨es',clock',hrun,hM',hsame⟩:=BX hH hu hb hM hkR hyR;have hany:(l.any fun p=>iX tb i1 xk p.1)=true:=by
        cases hb:l.any fun p=>iX tb i1 xk p.1 with
        |true=>rfl
        |false=>
         have:(l.find? fun p=>iX tb i1 xk p.1)=none:=List.find?_eq_none.2 fun p hp=>by
          have:=List.any_eq_false.1 hb p hp;simpa using this
         unfold gI at hck
         rw[this]at hck;cases hck
       obtain⟨rfl,hsk⟩:=hsame hany;have hrun':(execOp a.eval o).run P m.w=.ok .skip (setBlock m.w b (.map es' gq.n)):=by
        simp[execOp,ho,hx,hrun]
       unfold bI;rw[hrun'];exact(I3 k1 k2 g3 g4 (by simpa using hO) hM' (hsk.trans g5) (by simp[AV.gH,bP,db,undef]))
     . cases h5
   . cases h5
 . cases h4
theorem mI{w:World}{b clock:Nat}{es:Array MapEntry}(hb:w.heap[b]?=some (.map es clock))(q':Obj):w.grownBy (setBlock w b q') (some b):=
 ⟨rfl,rfl,rfl,by simp[setBlock],fun i _ hi=>heap_setBlock_other hb _ (fun e=>hi (by rw[e]))⟩
theorem tC(hT:dx P K tt){t:TypeId}{x y:Operand}(ho:o.op=.mapEntry t x y){v:CV S}{key:AV S}(h:FH tb tt t v key ob ct k=some r):dT P K o [.one v,key] ob ct k r:=by
 have hox:o.op.operands.toList=[x,y]:=by rw[ho];rfl
 unfold FH at h;obtain⟨⟨i1,i2,ei⟩,hi,h1⟩:=aa.1 h;simp only at h1;obtain⟨cs,hcs,h2⟩:=aa.1 h1;obtain⟨xk,hxk,h3⟩:=aa.1 h2;obtain⟨z,hz,h4⟩:=aa.1 h3;obtain⟨kt,et,hu,hei,hkc,hvc,hA,HK⟩:=oE hT hi;simp only at hei hkc hvc hA HK;split at h4
 . rename_i q;obtain⟨⟨ver,ao⟩,hq,h5⟩:=aa.1 h4;split at h5
   . rename_i t' kc vc l hao;simp only at hao;subst hao;split at h5
     . rename_i hk hv he q1 q2;clear h h1 h2 h3 h4;cases hk;cases hv;refine⟨_,h5,by simp,fun g a m Lr Lm hf _ ha hr hm hO=>?_⟩;simp only[pick,eW]at hr;subst hr;rw[hox]at ha;obtain⟨hv,hw⟩:=eo ha;simp only[bP,bM]at hv;obtain⟨gh,b,k1,k2,k3⟩:=hv;have hx:a.eval x=.map (some b):=by simpa using k3
       obtain⟨es,clock,rfl,hb,hM,_⟩:=qJ hm hq (by simpa using hO) k1 k2;have hO':Ow m [bR.obj b (.map es clock)]:=by simpa using hO
       obtain⟨hz1,hz2⟩:=yF hT hei hA hz (m:=m) (w:=m.w);have hkR:=jU hcs hxk hw;have hH:fS P kt (dv K i1 m) (iX tb i1):=HK.sub fun x v h=>⟨m,h⟩
       rcases Ka hH hu hz2 hb hM hkR with⟨j,e0,p,hj,hlj,hen,hke,hany,hfind,hrun⟩|⟨hany,hfind,hno,hrun⟩
       . have hrun':(execOp a.eval o).run P m.w=.ok (.value (.tuple #[e0.val,.int .i64 (e0.born:Int)])) (setBlock m.w b (.map es clock)):=by
          simp[execOp,ho,hx,hrun]
         unfold bI;rw[hrun'];have hS:=(St.refl hO').lN (mI hb (.map es clock)) (by simp[setBlock]) (heap_setBlock_same hb (.map es clock));have hg:=GG.gw (x:=⟨none,none,0,e0.born,default⟩) (hf (ct+1) (by omega) (by omega)).1;refine⟨_,g.jm (ct+1) ⟨none,none,0,e0.born,default⟩,[.obj b (.map es clock)],rfl,by simpa using hS,hg,rfl,rfl,GG.eU,⟨_,[],rfl,⟨gh,b,es,clock,hg.bk _ _ k1,k2,rfl,?_,⟨j,e0,_,hj,?_,GG.cM,rfl⟩⟩,rfl⟩,?_⟩
         . have:LX (iX tb i1) l xk z=l:=by unfold LX;rw[if_pos hany]
           show jZ _ _ es clock (LX (iX tb i1) l xk z);rw[this];exact hM.mono (fun _ _ h=>dv.mono K hS.le h) fun y _ h=>(cF K i2).mono h hS.le
         . rw[hke];exact dv.mono K hS.le hkR
         . simp only[bP,iH];refine⟨_,rfl,_,_,rfl,?_,_,_,rfl,?_,rfl⟩
           . simp only[bP];have:gI (iX tb i1) l xk=some p.2:=by unfold gI;rw[hfind];rfl
             rw[this];exact toCV_ok (qT hvc) ((cF K i2).mono hen.2 hS.le)
           . simp only[bP,bM];exact⟨_,GG.cM,rfl⟩
       . have hrun':(execOp a.eval o).run P m.w=.ok (.value (.tuple #[zeroOf ei,.int .i64 (clock:Int)])) (setBlock m.w b (.map (es.push ⟨a.eval y,zeroOf ei,clock⟩) (clock+1))):=by
          simp[execOp,ho,hx,hrun]
         unfold bI;rw[hrun'];have hS:=(St.refl hO').lN (mI hb (.map (es.push ⟨a.eval y,zeroOf ei,clock⟩) (clock+1))) (by simp[setBlock]) (heap_setBlock_same hb (.map (es.push ⟨a.eval y,zeroOf ei,clock⟩) (clock+1)));have hg:=GG.gw (x:=⟨none,none,0,clock,default⟩) (hf (ct+1) (by omega) (by omega)).1;refine⟨_,g.jm (ct+1) ⟨none,none,0,clock,default⟩,[.obj b (.map (es.push ⟨a.eval y,zeroOf ei,clock⟩) (clock+1))],rfl,by simpa using hS,hg,rfl,rfl,GG.eU,⟨_,[],rfl,⟨gh,b,_,_,hg.bk _ _ k1,k2,rfl,?_,⟨es.toList.length,⟨a.eval y,zeroOf ei,clock⟩,_,?_,dv.mono K hS.le hkR,GG.cM,rfl⟩⟩,rfl⟩,?_⟩
         . have:LX (iX tb i1) l xk z=l++[(xk,z)]:=by unfold LX;rw[if_neg (by rw[hany];simp)]
           show jZ _ _ _ _ (LX (iX tb i1) l xk z);rw[this];refine jZ.mono (fun _ _ h=>dv.mono K hS.le h) (fun y _ h=>(cF K i2).mono h hS.le) ⟨MapKept.stamped_push hM.st hno,?_⟩;rw[Array.toList_push];exact hM.vw.app ⟨hkR,hz1⟩
         . rw[Array.toList_push,List.getElem?_append_right (Nat.le_refl _),Nat.sub_self];rfl
         . simp only[bP,iH];refine⟨_,rfl,_,_,rfl,?_,_,_,rfl,?_,rfl⟩
           . simp only[bP];have:gI (iX tb i1) l xk=none:=by unfold gI;rw[hfind];rfl
             rw[this];exact toCV_ok (qT hvc) ((cF K i2).mono hz1 hS.le)
           . simp only[bP,bM];exact⟨_,GG.cM,rfl⟩
     . cases h5
   . rename_i t' kc vc l q0 hao;simp only at hao;subst hao;split at h5
     . rename_i hk hv he q1 q2;cases hk;cases hv;obtain⟨_,hck,h5⟩:=aa.1 h5;have hck:(gI (iX tb i1) l xk).isSome=true:=by
        unfold nW at hck;split at hck
        . rename_i hc;exact hc
        . cases hck
       clear h h1 h2 h3 h4;refine⟨_,h5,by simp,fun g a m Lr Lm hf _ ha hr hm hO=>?_⟩;simp only[pick,eW]at hr;subst hr;rw[hox]at ha;obtain⟨hv,hw⟩:=eo ha;simp only[bP,bM]at hv;obtain⟨gh,b,k1,k2,k3⟩:=hv;have hx:a.eval x=.map (some b):=by simpa using k3
       obtain⟨es,gq,rfl,hb,hM,_,g3,g4,g5⟩:=uK hm hq (by simpa using hO) k1 k2;have hO':Ow m [bR.obj b (.map es gq.n)]:=by simpa using hO
       obtain⟨hz1,hz2⟩:=yF hT hei hA hz (m:=m) (w:=m.w);have hkR:=jU hcs hxk hw;have hH:fS P kt (dv K i1 m) (iX tb i1):=HK.sub fun x v h=>⟨m,h⟩
       rcases Ka hH hu hz2 hb hM hkR with⟨j,e0,p,hj,hlj,hen,hke,hany,hfind,hrun⟩|⟨hany,hfind,hno,hrun⟩
       . have hrun':(execOp a.eval o).run P m.w=.ok (.value (.tuple #[e0.val,.int .i64 (e0.born:Int)])) (setBlock m.w b (.map es gq.n)):=by
          simp[execOp,ho,hx,hrun]
         unfold bI;rw[hrun'];have hS:=(St.refl hO').lN (mI hb (.map es gq.n)) (by simp[setBlock]) (heap_setBlock_same hb (.map es gq.n));have hg:=GG.gw (x:=⟨none,none,0,e0.born,default⟩) (hf (ct+1) (by omega) (by omega)).1;refine⟨_,g.jm (ct+1) ⟨none,none,0,e0.born,default⟩,[.obj b (.map es gq.n)],rfl,by simpa using hS,hg,rfl,rfl,GG.eU,⟨_,[],rfl,⟨gh,b,es,gq,hg.bk _ _ k1,k2,hg.bk _ _ g3,g4,rfl,?_,⟨j,e0,_,hj,?_,GG.cM,rfl⟩,g5⟩,rfl⟩,?_⟩
         . exact hM.mono (fun _ _ h=>dv.mono K hS.le h) fun y _ h=>(cF K i2).mono h hS.le
         . rw[hke];exact dv.mono K hS.le hkR
         . simp only[bP,iH];refine⟨_,rfl,_,_,rfl,?_,_,_,rfl,?_,rfl⟩
           . simp only[bP];have:gI (iX tb i1) l xk=some p.2:=by unfold gI;rw[hfind];rfl
             rw[this];exact toCV_ok (qT hvc) ((cF K i2).mono hen.2 hS.le)
           . simp only[bP,bM];exact⟨_,GG.cM,rfl⟩
       . exfalso;unfold gI at hck;rw[hfind]at hck;cases hck
     . cases h5
   . cases h5
 . cases h4
theorem ET(hT:dx P K tt){t:TypeId}{x y z:Operand}(ho:o.op=.entryStore t x y z){v s:CV S}{w:AV S}(h:P2 tb tt t v s w ob k=some r):dT P K o [.one v,.one s,w] ob ct k r:=by
 have hox:o.op.operands.toList=[x,y,z]:=by rw[ho];rfl
 unfold P2 at h;obtain⟨⟨i1,i2,ei⟩,hi,h1⟩:=aa.1 h;simp only at h1;obtain⟨ws,hws,h2⟩:=aa.1 h1;obtain⟨yv,hyv,h3⟩:=aa.1 h2;obtain⟨kt,et,hu,hei,hkc,hvc,hA,HK⟩:=oE hT hi;simp only at hei hkc hvc hA HK;split at h3
 . rename_i q q' sq;split at h3
   . obtain⟨⟨ver,ao⟩,hq,h4⟩:=aa.1 h3;split at h4
     . rename_i t' kc vc l xk sq' hao;simp only at hao;subst hao;split at h4
       . rename_i hk hv he q1 q2;clear h h1 h2 h3;cases hk;cases hv;simp only[al]at he;have he2:=ah he.2;subst he2;refine⟨_,h4,by simp,fun g a m Lr Lm hf _ ha hr hm hO=>?_⟩;simp only[pick,eW]at hr;subst hr;rw[hox]at ha;obtain⟨hv,hs,hy⟩:=tF ha;simp only[bP,bM]at hv hs;obtain⟨gh,b,k1,k2,k3⟩:=hv;obtain⟨ghs,s1,s2⟩:=hs;have hx:a.eval x=.map (some b):=by simpa using k3
         have hsy:a.eval y=.int .i64 (ghs.n:Int):=by simpa using s2
         obtain⟨es,clock,rfl,hb,hM,j,e0,ghq,hj,hkR,hgq,hgn⟩:=qJ hm hq (by simpa using hO) k1 k2;rw[s1]at hgq;have r3:=ax hgq;subst r3;have hyR:RK K i2 m yv [a.eval z]:=(qH (yA hvc)).1 (jU hws hyv hy);have hH:fS P kt (dv K i1 m) (iX tb i1):=HK.sub fun x v h=>⟨m,h⟩
         have hst:=(MapKept.stamped_iff es clock).1 hM.st;obtain⟨pp,c1,c2,c3,c4,c5,c6⟩:=any_some hH hkR hM.vw hst.2.2 hj rfl;have hrun:=OJ (P:=P) (t:=t) (val:=a.eval z) hM.st hj hb;rw[<- hgn,<- hsy]at hrun;have hrun':(execOp a.eval o).run P m.w=.ok .skip (setBlock m.w b (.map (es.modify j fun e=>{e with val:=a.eval z}) clock)):=by
          simp[execOp,ho,hx,hrun]
         unfold bI;rw[hrun'];have hmp:mG (iX tb i1) l xk yv=l.set j (xk,yv):=by
          unfold mG;rw[if_pos c3,c5]
         have hM':jZ (dv K i1 m) (fun y v=>RK K i2 m y [v]) (es.modify j fun e=>{e with val:=a.eval z}) clock (mG (iX tb i1) l xk yv):=by
          rw[hmp];refine⟨MapKept.stamped_modify hM.st _ _ (fun _ _=>rfl) (fun _ _ _=>rfl),?_⟩;rw[Array.toList_modify,ChangeMaps.modify_eq_set _ _ _ _ hj];exact hM.vw.set ⟨hkR,hyR⟩ j
         exact(GI k1 k2 (by simpa using hO) hM' (by simp[AV.gH,bP,db,undef]))
       . cases h4
     . rename_i t' kc vc l xk sq' q0 hao;simp only at hao;subst hao;split at h4
       . rename_i hk hv he q1 q2;clear h h1 h2 h3;cases hk;cases hv;simp only[al]at he;have he2:=ah he.2;subst he2;refine⟨_,h4,by simp,fun g a m Lr Lm hf _ ha hr hm hO=>?_⟩;simp only[pick,eW]at hr;subst hr;rw[hox]at ha;obtain⟨hv,hs,hy⟩:=tF ha;simp only[bP,bM]at hv hs;obtain⟨gh,b,k1,k2,k3⟩:=hv;obtain⟨ghs,s1,s2⟩:=hs;have hx:a.eval x=.map (some b):=by simpa using k3
         have hsy:a.eval y=.int .i64 (ghs.n:Int):=by simpa using s2
         obtain⟨es,gq,rfl,hb,hM,⟨j,e0,ghq,hj,hkR,hgq,hgn⟩,g3,g4,g5⟩:=uK hm hq (by simpa using hO) k1 k2;rw[s1]at hgq;have r3:=ax hgq;subst r3;have hyR:RK K i2 m yv [a.eval z]:=(qH (yA hvc)).1 (jU hws hyv hy);have hH:fS P kt (dv K i1 m) (iX tb i1):=HK.sub fun x v h=>⟨m,h⟩
         have hst:=(MapKept.stamped_iff es gq.n).1 hM.st;obtain⟨pp,c1,c2,c3,c4,c5,c6⟩:=any_some hH hkR hM.vw hst.2.2 hj rfl;have hrun:=OJ (P:=P) (t:=t) (val:=a.eval z) hM.st hj hb;rw[<- hgn,<- hsy]at hrun;have hrun':(execOp a.eval o).run P m.w=.ok .skip (setBlock m.w b (.map (es.modify j fun e=>{e with val:=a.eval z}) gq.n)):=by
          simp[execOp,ho,hx,hrun]
         unfold bI;rw[hrun'];have hmp:mG (iX tb i1) l xk yv=l.set j (xk,yv):=by
          unfold mG;rw[if_pos c3,c5]
         have hM':jZ (dv K i1 m) (fun y v=>RK K i2 m y [v]) (es.modify j fun e=>{e with val:=a.eval z}) gq.n (mG (iX tb i1) l xk yv):=by
          rw[hmp];refine⟨MapKept.stamped_modify hM.st _ _ (fun _ _=>rfl) (fun _ _ _=>rfl),?_⟩;rw[Array.toList_modify,ChangeMaps.modify_eq_set _ _ _ _ hj];exact hM.vw.set ⟨hkR,hyR⟩ j
         exact(I3 k1 k2 g3 g4 (by simpa using hO) hM' (by
          rw[<- g5,Array.toList_modify,ChangeMaps.modify_eq_set _ _ _ _ hj,List.map_set];refine List.ext_getElem? fun i=>?_
          rw[List.getElem?_set];split
          . rename_i e;subst e;rw[List.getElem?_map,hj,aQ,if_pos (List.getElem?_eq_some_iff.1 hj).1];rfl
          . rfl) (by simp[AV.gH,bP,db,undef]))
       . cases h4
     . cases h4
   . cases h3
 . cases h3
theorem zJ(hT:dx P K tt){t kt':TypeId}{x y:Operand}(ho:o.op=.call ⟨.builtin .delete,#[x,y],#[t,kt']⟩){v:CV S}{key:AV S}(h:PW tb tt t v key ob k=some r):dT P K o [.one v,key] ob ct k r:=by
 have hox:o.op.operands.toList=[x,y]:=by rw[ho];rfl
 unfold PW at h;obtain⟨⟨i1,i2,ei⟩,hi,h1⟩:=aa.1 h;simp only at h1;obtain⟨cs,hcs,h2⟩:=aa.1 h1;obtain⟨xk,hxk,h4⟩:=aa.1 h2;obtain⟨kt,et,hu,hei,hkc,hvc,hA,HK⟩:=oE hT hi;simp only at hei hkc hvc hA HK;split at h4
 . rename_i q;obtain⟨⟨ver,ao⟩,hq,h5⟩:=aa.1 h4;split at h5
   . rename_i t' kc vc l hao;simp only at hao;subst hao;split at h5
     . rename_i hk hv he q1 q2;clear h h1 h2 h4;cases hk;cases hv;refine⟨_,h5,by simp,fun g a m Lr Lm hf _ ha hr hm hO=>?_⟩;simp only[pick,eW]at hr;subst hr;rw[hox]at ha;obtain⟨hv,hw⟩:=eo ha;simp only[bP,bM]at hv;obtain⟨gh,b,k1,k2,k3⟩:=hv;have hx:a.eval x=.map (some b):=by simpa using k3
       obtain⟨es,clock,rfl,hb,hM,_⟩:=qJ hm hq (by simpa using hO) k1 k2;have hkR:=jU hcs hxk hw;have hH:fS P kt (dv K i1 m) (iX tb i1):=HK.sub fun x v h=>⟨m,h⟩
       obtain⟨es',hrun,hM'⟩:=W3 (ty:=o.type) (kt2:=kt') hH hu hb hM hkR;have hrun':(execOp a.eval o).run P m.w=.ok (.value (.tuple #[])) (setBlock m.w b (.map es' clock)):=by
        simp[execOp,ho,resolve,invoke,builtin,hx,hrun]
       unfold bI;rw[hrun'];exact(GI (v:=.dD []) k1 k2 (by simpa using hO) hM' (by simp only[bP,db];exact⟨[],rfl,rfl⟩))
     . cases h5
   . cases h5
 . cases h4
theorem DC(hT:dx P K tt){t:TypeId}{x:Operand}(ho:o.op=.range t x){v:CV S}(h:zT tb tt t v ob ct k=some r):dT P K o [.one v] ob ct k r:=by
 have hox:o.op.operands.toList=[x]:=by rw[ho];rfl
 unfold zT at h;obtain⟨⟨i1,i2,ei⟩,hi,h4⟩:=aa.1 h;simp only at h4;obtain⟨kt,et,hu,hei,hkc,hvc,hA,HK⟩:=oE hT hi;simp only at hei hkc hvc hA HK;split at h4
 . rename_i q;obtain⟨⟨ver,ao⟩,hq,h5⟩:=aa.1 h4;split at h5
   . rename_i t' kc vc l hao;simp only at hao;subst hao;split at h5
     . rename_i hk hv he q1 q2;clear h h4;cases hk;cases hv;refine⟨_,h5,by simp,fun g a m Lr Lm hf _ ha hr hm hO=>?_⟩;simp only[pick,eW]at hr;subst hr;rw[hox]at ha;have hv:=dW ha;simp only[bP,bM]at hv;obtain⟨gh,b,k1,k2,k3⟩:=hv;have hx:a.eval x=.map (some b):=by simpa using k3
       obtain⟨es,clock,rfl,hb,hM,_⟩:=qJ hm hq (by simpa using hO) k1 k2;have hO':Ow m [bR.obj b (.map es clock)]:=by simpa using hO
       have hrun':(execOp a.eval o).run P m.w=.ok (.value (.pointer (some ⟨m.w.heap.size,0,none⟩))) (m.w.alloc (.mapIter (some b) clock #[] clock)):=by
        simp[execOp,ho,hx,Instr.range,run_underlying hu,MapKept.run_getObj_map hb,Result.andThen]
       unfold bI;rw[hrun'];have hS:=(St.refl hO').new (o:=.mapIter (some b) clock #[] clock) rfl (.obj m.w.heap.size (.mapIter (some b) clock #[] clock)) rfl (eu _ _);have hle:=hS.le;have hg:=GG.gw (x:=⟨some m.w.heap.size,none,b,clock,es.toList.map fun e=>(e.key,e.born)⟩) (hf (ct+1) (by omega) (by omega)).1;refine⟨_,g.jm (ct+1) ⟨some m.w.heap.size,none,b,clock,es.toList.map fun e=>(e.key,e.born)⟩,[.obj b (.map es clock),.obj m.w.heap.size (.mapIter (some b) clock #[] clock)],rfl,by simpa using hS.perm (List.Perm.swap _ _ _),hg,rfl,rfl,GG.eU,
        ⟨_,_,rfl,⟨gh,b,es,_,hg.bk _ _ k1,k2,GG.cM,rfl,rfl,?_,trivial,rfl⟩,_,[],rfl,⟨_,gh,m.w.heap.size,#[],GG.cM,rfl,hg.bk _ _ k1,k2,rfl,rfl⟩,rfl⟩,?_⟩
       . exact hM.mono (fun _ _ h=>dv.mono K hle h) fun y _ h=>(cF K i2).mono h hle
       . simp only[bP,bM];exact⟨_,_,GG.cM,rfl,rfl⟩
     . cases h5
   . cases h5
 . cases h4
theorem SR{c:Co}{x:T S c}{v:Value}(hc:Dg tb c=true)(h:dv K c m x v):bP K g m (Od tb c x) v:=by
 by_cases hs:∃i,c=.st i
 . obtain⟨i,rfl⟩:=hs;obtain⟨cs,rfl,h1⟩:=h;simp only[Od,bP];exact⟨cs,rfl,Am h1⟩
 . have hn:∀i,c≠ .st i:=fun i e=>hs ⟨i,e⟩
   have h1:=(qH hn).1 h;have e:Od tb c x=.one (toCV c x):=by cases c<;>first|rfl|exact absurd rfl (hn _)
   rw[e];simp only[bP];exact toCV_ok (by cases c<;>first|rfl|exact absurd rfl (hn _)|cases hc) h1
theorem Dz(hT:dx P K tt){x:Operand}(ho:o.op=.entry x){v:CV S}(h:zj tb tt v ob k=some r):dT P K o [.one v] ob ct k r:=by
 have hox:o.op.operands.toList=[x]:=by rw[ho];rfl
 unfold zj at h;split at h
 . rename_i q;obtain⟨⟨ver,ao⟩,hq,h1⟩:=aa.1 h;split at h1
   . rename_i kc' om xk hao;simp only at hao;subst hao;obtain⟨⟨ver2,ao2⟩,hq2,h2⟩:=aa.1 h1;split at h2
     . rename_i t kc vc l q' hao;simp only at hao;subst hao;obtain⟨⟨i1,i2,ei⟩,hi,h3⟩:=aa.1 h2;obtain⟨z,hz,h4⟩:=aa.1 h3;simp only at h4 hz;obtain⟨kt,et,hu,hei,hkc,hvc,hA,HK⟩:=oE hT hi;simp only at hei hkc hvc hA HK;split at h4
       . rename_i hk0 hk hv he e1 e2 e3;have he:=ah he;subst he;clear h h1 h2 h3 e1 e2 e3;cases hk0;cases hk;cases hv;refine⟨_,h4,by simp,fun g a m Lr Lm hf _ ha hr hm hO=>?_⟩;simp only[pick,eW]at hm;subst hm;rw[hox]at ha;have hv:=dW ha;simp only[bP,bM]at hv;obtain⟨gq,rb,k1,k2,k3⟩:=hv;have hx:a.eval x=.pointer (some ⟨rb,0,none⟩):=by simpa using k3
         simp only[pick,hq,hq2,eW]at hr;obtain⟨e1,L1,rfl,_,hit,e2,L2,rfl,_,hmp,rfl⟩:=hr;obtain⟨gh,go,rb',seen,j1,j2,j3,j4,rfl,j,p,j5,j6,j7⟩:=hit;rw[k1]at j1;have r1:=ax j1;subst r1;rw[k2]at j2;have r2:=ax j2;subst r2;obtain⟨gm,b,es,gq',m1,m2,m3,m4,rfl,m5,m6,m7⟩:=hmp;rw[k1]at m3;have r3:=ax m3;subst r3;rw[m1]at j3;have r4:=ax j3;subst r4;rw[m2]at j4;have r5:=ax j4;have hO1:m.w.heap[rb]?=some (.mapIter (some gq.cap) gq.n seen gq.n):=hO.ok (.obj rb (.mapIter (some gq.cap) gq.n seen gq.n)) (by simp);have hO2:m.w.heap[gq.cap]?=some (.map es gq.n):=by rw[<- r5];exact hO.ok (.obj b (.map es gq.n)) (by simp)
         rw[<- m7,List.getElem?_map]at j5;obtain⟨e0,he0,rfl⟩:=ab.1 j5;have hst:=(MapKept.stamped_iff es gq.n).1 m5.st;obtain⟨s',rfl⟩:=Array.back?_eq_some_iff.1 j6;have hmem:e0∈es.toList:=List.mem_of_getElem? he0;have hrun:=run_entry_at (P:=P) m.w rb gq.cap gq.n s' es gq.n e0 hO1 hO2 hmem hst.2.1;have hrun':(execOp a.eval o).run P m.w=.ok (.value (.tuple #[e0.key,e0.val])) m.w:=by
          simp[execOp,ho,hx,hrun]
         obtain⟨pp,p1,p2,p3⟩:=m5.vw.at he0;have hH:fS P kt (dv K i1 m) (iX tb i1):=HK.sub fun x v h=>⟨m,h⟩
         obtain⟨p0,c1,c2,c3,c4,_⟩:=any_some hH j7 m5.vw hst.2.2 he0 rfl;rw[p1]at c1;cases c1;have hg:gI (iX tb i1) l xk=some pp.2:=by unfold gI;rw[c4];rfl
         refine bI.val hrun' (AA.pure rfl hO ?_);simp only[iH,AK,hg,Option.getD_some,bP];exact⟨_,rfl,_,_,rfl,SR hkc j7,_,_,rfl,by simp only[bP];exact toCV_ok (qT hvc) p3,rfl⟩
       . cases h4
     . cases h2
   . cases h1
 . cases h
end E
end
section
open Go.RowKit G
open Go.ChangeMaps (setBlock heap_setBlock_same heap_setBlock_other)
namespace E
variable {S:Nat->Type}{tb:Tb S}{K:ep tb}{P:Program}{o:Oper}{xs:List (AV S)}{ob:List (Nat×Nat×AO S)}{ct:Nat}{γ:Type}{k:ia S->Option γ}{r:γ}{tt:TypeId->Option (TI S)}{g:GG S}{m:Mem}
theorem WI{l:List (CV S)}(h:Zo l=true):l=[.fg]:=by
 unfold Zo at h;split at h
 . rfl
 . cases h
theorem Te{l:List (CV S)}(h:Td l=true):l=[.fB]:=by
 unfold Td at h;split at h
 . rfl
 . cases h
theorem KD{t:TypeId}{i:TI S}{v:CV S}{z:Value}(hty:ED P t i)(hA:fu i.d=false)(hz:i.zero=[v])(hv:ui v=[z])(w:World):(zeroValue t).run P w=.ok z w:=by
 have h0:zeroOf i=z:=by
  unfold zeroOf;rw[hA,hz];simp[jc,hv]
 refine mH ?_;obtain⟨inf,j1,j2,_⟩:=info_parts hty.info;simp[j1,j2,h0]
theorem zq(hT:dx P K tt){t:TypeId}{i:Co×Co×TypeId}(h:rC tb tt t=some i):
 ∃kt se,P.underlying t=some (.map kt se)/\gU tt se=some (i.2.2,i.2.1)/\(∀w:World,(zeroValue se).run P w=.ok (.slice none 0 0) w)/\fS P kt (fun x v=>∃m,dv K i.1 m x v) (iX tb i.1):=by
 unfold rC at h
 obtain⟨ti,hti,h⟩:=aa.1 h
 split at h
 . rename_i kt se kc c hd hc
   obtain⟨si,hsi,h⟩:=aa.1 h
   obtain⟨⟨e1,e2⟩,hec,h⟩:=aa.1 h
   split at h
   . rename_i hq hk _
     simp only at hq
     cases h
     subst hq
     simp only[al]at hk
     have htd:=(hT.ty t ti hti).td
     rw[hd]at htd
     have hag:fu si.d=false:=by
      unfold gU at hec;rw[hsi,ae]at hec;split at hec
      . rename_i h1 _;rw[h1];rfl
      . cases hec
     exact⟨kt,se,htd,hec,KD (hT.ty se si hsi) hag (WI hk.2) rfl,hT.mp t ti kt se kc _ hti hd hc hk.1⟩
   . cases h
 . cases h
theorem Fw(hT:dx P K tt){t:TypeId}{i:Co}(h:zA tb tt t=some i):
 ∃kt se,P.underlying t=some (.map kt se)/\(∀w:World,(zeroValue se).run P w=.ok .nilFunc w)/\fS P kt (fun x v=>∃m,dv K i m x v) (iX tb i):=by
 unfold zA at h
 obtain⟨ti,hti,h⟩:=aa.1 h
 split at h
 . rename_i kt se kc n hd hc
   obtain⟨si,hsi,h⟩:=aa.1 h
   split at h
   . rename_i hk
     cases h
     simp only[al,Bool.not_eq_true']at hk
     have htd:=(hT.ty t ti hti).td
     rw[hd]at htd
     exact⟨kt,se,htd,KD (hT.ty se si hsi) hk.2.2 (Te hk.2.1) rfl,hT.mp t ti kt se _ _ hti hd hc hk.1⟩
   . cases h
 . cases h
theorem yf{κ ν:Type}{et:TypeId}{sz:Nat}{gh:Gh}{p':κ×(ν×Option Gh)}(hp':p'.2.2=none):∀{ll:List (κ×(ν×Option Gh))} {j:Nat} {p:κ×(ν×Option Gh)},ll[j]?=some p->p.2.2=some gh->
 List.Perm (ll.filterMap (nC et sz)) (bR.row gh.g et (gh.cap*sz) (gh.n*sz)::(ll.set j p').filterMap (nC et sz))
 |[],_,_,h,_=>by simp at h
 |p0::ll,0,p,h,hp=>by
  simp at h;subst h;have h1:nC et sz p0=some (bR.row gh.g et (gh.cap*sz) (gh.n*sz)):=by unfold nC;rw[hp];rfl
  have h2:nC et sz p'=none:=by unfold nC;rw[hp'];rfl
  rw[List.set_cons_zero,List.filterMap_cons_some h1,List.filterMap_cons_none h2]
 |p0::ll,j+1,p,h,hp=>by
  simp at h;have ih:=yf (et:=et) (sz:=sz) hp' h hp;rw[List.set_cons_succ]
  cases h1:nC et sz p0 with
  |none=>rw[List.filterMap_cons_none h1,List.filterMap_cons_none h1];exact ih
  |some e=>rw[List.filterMap_cons_some h1,List.filterMap_cons_some h1];exact(ih.cons e).trans (List.Perm.swap _ _ _)
theorem Ue{α:Type}{l:List α}{j:Nat}{x:α}(h:l[j]?=some x)(y:α):(l.set j y).set j x=l:=by
 rw[List.set_set];obtain⟨h1,rfl⟩:=List.getElem?_eq_some_iff.1 h;exact List.set_getElem_self h1
theorem fL{α:Type}{l:List α}{j:Nat}{x:α}(h:l[j]?=some x):l.set j x=l:=by
 obtain⟨h1,rfl⟩:=List.getElem?_eq_some_iff.1 h;exact List.set_getElem_self h1
theorem OH{κ ν:Type}{et:TypeId}{sz:Nat}{gh:Gh}{p':κ×(ν×Option Gh)}(hp':p'.2.2=some gh){ll:List (κ×(ν×Option Gh))}{j:Nat}{p:κ×(ν×Option Gh)}(h:ll[j]?=some p)(hp:p.2.2=none):
 List.Perm ((ll.set j p').filterMap (nC et sz)) (bR.row gh.g et (gh.cap*sz) (gh.n*sz)::ll.filterMap (nC et sz)):=by
 have h1:(ll.set j p')[j]?=some p':=by
  rw[List.getElem?_set_self (List.getElem?_eq_some_iff.1 h).1]
 have:=yf (et:=et) (sz:=sz) (p':=p) hp h1 hp'
 rwa[Ue h]at this
theorem St.XM{B:List Nat}{m0 m:Mem}:∀{D L:List bR},St B m0 m (D++L)->St B m0 m L
 |[],_,h=>h
 |_::_,_,h=>St.XM (St.drop h)
theorem Uq{D L R L' R':List bR}{b:Nat}{q q':Obj}{w':World}(hO:Ow m (bR.cat (.obj b q::L)::R))(hw:m.w.grownBy w' (some b))(hsz:w'.heap.size=m.w.heap.size)(hb:w'.heap[b]?=some q')(hp:List.Perm (L++R) (D++(L'++R'))):
 St (bK (bR.cat (.obj b q::L)::R)) m ⟨w',m.ok⟩ (bR.cat (.obj b q'::L')::R'):=by
 have h1:St (bK (bR.cat (.obj b q::L)::R)) m m (.obj b q::(L++R)):=(St.refl hO).Kz
 have h2:St (bK (bR.cat (.obj b q::L)::R)) m ⟨w',m.ok⟩ (.obj b q'::(D++(L'++R'))):=(h1.lN hw hsz hb).perm (hp.cons _)
 have h3:St (bK (bR.cat (.obj b q::L)::R)) m ⟨w',m.ok⟩ (D++((.obj b q'::L')++R')):=h2.perm List.perm_middle.symm
 exact(St.XM h3).cat
theorem zr{q b:Nat}{gh:Gh}{t et:TypeId}{kc c:Co}{l:List (T S kc×List (T S c))}{hole:Option (T S kc)}{e:bR}(hob:iY K g m q (.qE t et kc c l hole) e)(k1:g.bk q=some gh)(k2:gh.g=some b):
 ∃es clock ll,e=.cat (.obj b (.map es clock)::ll.filterMap (nC et (zK K c)))/\jZ (dv K kc m) (Q4 K m c) es clock ll/\ll.map (fun p=>(p.1,p.2.1))=l/\Jq K m kc es ll hole:=by
 obtain⟨gh',b',es,clock,ll,j1,j2,rfl,j4,j5,j6⟩:=hob
 rw[k1]at j1;have e1:=ax j1;subst e1
 rw[k2]at j2;have e2:=ax j2;subst e2
 exact⟨es,clock,ll,rfl,j4,j5,j6⟩
theorem CA{b:Nat}{q:Obj}{L R:List bR}(hO:Ow m (bR.cat (.obj b q::L)::R)):m.w.heap[b]?=some q:=hO.Kz.ok (.obj b q) (by simp)
theorem JV(hT:dx P K tt){t:TypeId}(ho:o.op=.makeMap t none){i:Co×Co×TypeId}(hi:rC tb tt t=some i)(h:k {v:=.one (.mp (ct+1)),add:=[(ct+1,.qE t i.2.2 i.1 i.2.1 [] none)]}=some r):dT P K o [] ob ct k r:=by
 refine⟨_,h,by simp,fun g a m Lr Lm hf _ ha hr hm hO=>?_⟩;simp only[pick,eW]at hr hm;subst hr;subst hm;refine zZ (Ke.nil a) (St.refl (Ow.nil m)) ho fun m' b hle hS=>?_
 have hg:=GG.gw (x:=⟨some b,none,0,0,default⟩) (hf (ct+1) (by omega) (by omega)).1;have hS':St (bK ([]:List bR)) m m' ([bR.cat [.obj b (.map #[] 0)]]):=St.cat (L:=[.obj b (.map #[] 0)]) (R:=[]) (by simpa using hS);refine⟨m',g.jm (ct+1) ⟨some b,none,0,0,default⟩,[bR.cat [.obj b (.map #[] 0)]],rfl,by simpa using hS',hg,rfl,rfl,GG.eU,⟨_,[],rfl,⟨_,b,#[],0,[],GG.cM,rfl,rfl,jZ.nil,rfl,fun i p h=>by simp at h⟩,rfl⟩,?_⟩;simp only[bP,bM];exact⟨_,b,GG.cM,rfl,rfl⟩
theorem JX(hT:dx P K tt){t:TypeId}(ho:o.op=.makeMap t none){i:Co}(hi:zA tb tt t=some i)(h:k {v:=.one (.mp (ct+1)),add:=[(ct+1,.EP t i [])]}=some r):dT P K o [] ob ct k r:=by
 refine⟨_,h,by simp,fun g a m Lr Lm hf _ ha hr hm hO=>?_⟩;simp only[pick,eW]at hr hm;subst hr;subst hm;refine zZ (Ke.nil a) (St.refl (Ow.nil m)) ho fun m' b hle hS=>?_
 have hg:=GG.gw (x:=⟨some b,none,0,0,default⟩) (hf (ct+1) (by omega) (by omega)).1;refine⟨m',g.jm (ct+1) ⟨some b,none,0,0,default⟩,[.obj b (.map #[] 0)],rfl,by simpa using hS,hg,rfl,rfl,GG.eU,⟨_,[],rfl,⟨_,b,#[],0,GG.cM,rfl,rfl,jZ.nil⟩,rfl⟩,?_⟩;simp only[bP,bM];exact⟨_,b,GG.cM,rfl,rfl⟩
theorem Mi(hT:dx P K tt){t:TypeId}{x y:Operand}{c:Bool}(ho:o.op=.lookup t x y c){v:CV S}{key:AV S}(h:zp tb tt t v key c ob k=some r):dT P K o [.one v,key] ob ct k r:=by
 have hox:o.op.operands.toList=[x,y]:=by rw[ho];rfl
 unfold zp at h;obtain⟨⟨i1,i2,ec⟩,hi,h1⟩:=aa.1 h;simp only at h1;obtain⟨cs,hcs,h2⟩:=aa.1 h1;obtain⟨xk,hxk,h4⟩:=aa.1 h2;obtain⟨kt,se,hu,hec,hz,HK⟩:=zq hT hi;simp only at hec HK;split at h4
 . rename_i q;obtain⟨⟨ver,ao⟩,hq,h5⟩:=aa.1 h4;split at h5
   . rename_i t' et kc c l hao;simp only at hao;subst hao;split at h5
     . rename_i hk hv he q1 q2;clear h h1 h2 h4;cases hk;cases hv;refine⟨_,h5,by simp,fun g a m Lr Lm hf _ ha hr hm hO=>?_⟩;simp only[pick,eW]at hm;subst hm;rw[hox]at ha;obtain⟨hv,hw⟩:=eo ha;simp only[bP,bM]at hv;obtain⟨gh,b,k1,k2,k3⟩:=hv;have hx:a.eval x=.map (some b):=by simpa using k3
       obtain⟨e,rfl,_,hob⟩:=dA hr hq;obtain⟨es,clock,ll,rfl,hM,rfl,hh⟩:=zr hob k1 k2;have hb:=CA (by simpa using hO);have hkR:=jU hcs hxk hw;have hH:fS P kt (dv K i1 m) (iX tb i1):=HK.sub fun x v h=>⟨m,h⟩
       obtain⟨u,hu1,hu2⟩:=tQ hH hu (hz m.w) hb hM hkR false;have hrun:(execOp a.eval o).run P m.w=.ok (.value u) m.w:=by
        simp[execOp,ho,hx,hu2]
       refine bI.val hrun (AA.pure rfl (by simpa using hO) ?_);have hget:=JL (eq:=iX tb i1) (fun p:List (T S i2)×Option Gh=>p.1) ll xk;simp only[bP,bM,AJ];rw[hget]
       cases hm:gI (iX tb i1) ll xk with
       |none=>rw[hm]at hu1;subst hu1;exact⟨none,0,rfl,dM.nil m (zK K i2)⟩
       |some y=>
        rw[hm]at hu1
        have hy:y.2≠none:=by
         unfold gI at hm;obtain⟨p,hp,rfl⟩:=ab.1 hm;obtain⟨j,hj⟩:=List.getElem?_of_mem (List.mem_of_find?_eq_some hp);exact hh j p hj
        simp only at hu1
        unfold Q4 at hu1
        split at hu1
        . obtain⟨l0,ad,e1,e2,_⟩:=hu1
          exact⟨ad,_,by rw[e1];rfl,e2⟩
        . rename_i hn;exact absurd hn hy
     . cases h5
   . cases h5
 . cases h4
theorem Tq(hT:dx P K tt){t:TypeId}{x y:Operand}{c:Bool}(ho:o.op=.lookup t x y c){v:CV S}{key:AV S}(h:zt tb tt t v key c ob ct k=some r):dT P K o [.one v,key] ob ct k r:=by
 have hox:o.op.operands.toList=[x,y]:=by rw[ho];rfl
 unfold zt at h;obtain⟨⟨i1,i2,ec⟩,hi,h1⟩:=aa.1 h;simp only at h1;obtain⟨cs,hcs,h2⟩:=aa.1 h1;obtain⟨xk,hxk,h4⟩:=aa.1 h2;obtain⟨kt,se,hu,hec,hz,HK⟩:=zq hT hi;simp only at hec HK;split at h4
 . rename_i q;obtain⟨⟨ver,ao⟩,hq,h5⟩:=aa.1 h4;split at h5
   . rename_i t' et kc c l hao;simp only at hao;subst hao;split at h5
     . rename_i hk hv he q1 q2;clear h h1 h2 h4;cases hk;cases hv;simp only[al]at he;have he2:=ah he.2;subst he2;refine⟨_,h5,by simp,fun g a m Lr Lm hf _ ha hr hm hO=>?_⟩;simp only[pick,eW]at hr;subst hr;rw[hox]at ha;obtain⟨hv,hw⟩:=eo ha;simp only[bP,bM]at hv;obtain⟨gh,b,k1,k2,k3⟩:=hv;have hx:a.eval x=.map (some b):=by simpa using k3
       obtain⟨e,rfl,_,hob⟩:=dA hm hq;obtain⟨es,clock,ll,rfl,hM,rfl,hh⟩:=zr hob k1 k2;have hO':Ow m [bR.cat (.obj b (.map es clock)::ll.filterMap (nC et (zK K i2)))]:=by simpa using hO
       have hb:=CA hO';have hkR:=jU hcs hxk hw;have hH:fS P kt (dv K i1 m) (iX tb i1):=HK.sub fun x v h=>⟨m,h⟩
       have hget:=JL (eq:=iX tb i1) (fun p:List (T S i2)×Option Gh=>p.1) ll xk;obtain⟨u,hu1,hu2⟩:=tQ hH hu (hz m.w) hb hM hkR false;have hrun:(execOp a.eval o).run P m.w=.ok (.value u) m.w:=by
        simp[execOp,ho,hx,hu2]
       refine bI.val hrun ?_;have hst:=(MapKept.stamped_iff es clock).1 hM.st;rcases hH.find m.w hkR es.toList hM.keys with⟨_,hno⟩|⟨j,e0,_,hj,hke⟩
       . obtain⟨_,a2⟩:=any_none hH hkR hM.vw hno;have hg0:gI (iX tb i1) ll xk=none:=by unfold gI;rw[a2];rfl
         rw[hg0]at hu1;simp only at hu1;subst hu1;have hge:=GG.gw (x:=⟨none,none,0,0,default⟩) (hf (ct+1) (by omega) (by omega)).1;have hS:St (bK [bR.cat (.obj b (.map es clock)::ll.filterMap (nC et (zK K i2)))]) m m [bR.cat (.obj b (.map es clock)::ll.filterMap (nC et (zK K i2))),bR.row none et (0*zK K i2) (0*zK K i2)]:=
          ((St.refl hO').KR (α:=T S i2) et (zK K i2)).perm (List.Perm.swap _ _ _)
         refine⟨m,_,_,rfl,by simpa using hS,hge,rfl,rfl,GG.eU,⟨_,_,rfl,⟨gh,b,es,clock,ll,hge.bk _ _ k1,k2,rfl,hM,rfl,fun i p e h1 _ h3=>absurd h3 (hh i p h1)⟩,⟨_,[],rfl,⟨_,GG.cM,rfl⟩,rfl⟩⟩,?_⟩;simp only[bP,bM,AJ];rw[hget,hg0];exact⟨_,[],none,GG.cM,rfl,dM.nil _ _,dM.nil _ _,rfl,fun h=>by cases h⟩
       . obtain⟨p,hlj,hen,_,hfind,_⟩:=any_some hH hkR hM.vw hst.2.2 hj hke;have hg0:gI (iX tb i1) ll xk=some p.2:=by unfold gI;rw[hfind];rfl
         rw[hg0]at hu1;simp only at hu1;have hpn:=hh j p hlj
         cases hp2:p.2.2 with
         |none=>exact absurd hp2 hpn
         |some gh2=>
         unfold Q4 at hu1;rw[hp2]at hu1;simp only at hu1;have hge:=GG.gw (x:=gh2) (hf (ct+1) (by omega) (by omega)).1;have hS:St (bK [bR.cat (.obj b (.map es clock)::ll.filterMap (nC et (zK K i2)))]) m m [bR.cat (.obj b (.map es clock)::(ll.set j (p.1,(p.2.1,none))).filterMap (nC et (zK K i2))),bR.row gh2.g et (gh2.cap*zK K i2) (gh2.n*zK K i2)]:=by
          have h1:St (bK [bR.cat (.obj b (.map es clock)::ll.filterMap (nC et (zK K i2)))]) m m (.obj b (.map es clock)::(ll.filterMap (nC et (zK K i2))++[])):=(St.refl hO').Kz;rw[aW]at h1;exact St.cat (L:=.obj b (.map es clock)::(ll.set j (p.1,(p.2.1,none))).filterMap (nC et (zK K i2))) (R:=[bR.row gh2.g et (gh2.cap*zK K i2) (gh2.n*zK K i2)])
           (h1.perm (((yf rfl hlj hp2).trans (List.perm_append_singleton _ _).symm).cons _))
         refine⟨m,_,_,rfl,by simpa using hS,hge,rfl,rfl,GG.eU,⟨_,_,rfl,⟨gh,b,es,clock,ll.set j (p.1,(p.2.1,none)),hge.bk _ _ k1,k2,rfl,⟨hM.st,?_⟩,?_,?_⟩,⟨_,[],rfl,⟨gh2,GG.cM,rfl⟩,rfl⟩⟩,?_⟩
         . have:=hM.vw.set (e:=e0) (p:=(p.1,(p.2.1,none))) ⟨hen.1,by unfold Q4;trivial⟩ j;rwa[fL hj]at this
         . show _=ll.map fun p=>(p.1,p.2.1)
           rw[List.map_set];exact fL (by rw[List.getElem?_map,hlj];rfl)
         . intro i q e h1 h2 h3;by_cases hij:i=j
           . subst hij;rw[hj]at h2;cases h2;rw[hke];exact hkR
           . rw[List.getElem?_set_ne (Ne.symm hij)]at h1;exact absurd h3 (hh i q h1)
         . simp only[bP,bM,AJ];rw[hget,hg0];obtain⟨l0,ad,r1,r2⟩:=hu1;exact⟨gh2,l0,ad,GG.cM,by rw[r1];rfl,r2⟩
     . cases h5
   . cases h5
 . cases h4
theorem S7{κ ν μ:Type}(eq:κ->κ->Bool)(f:ν->μ)(l:List (κ×ν))(x:κ)(v:ν):mG eq (l.map fun p=>(p.1,f p.2)) x (f v)=(mG eq l x v).map fun p=>(p.1,f p.2):=by
 unfold mG;rw[show((l.map fun p=>(p.1,f p.2)).any fun p=>eq x p.1)=l.any fun p=>eq x p.1 from by rw[List.any_map];rfl];split
 . rw[List.map_map,List.map_map];refine List.map_congr_left fun p _=>?_
   simp only[Function.comp];split<;>rfl
 . rw[bB];rfl
theorem S8{κ ν:Type}{eq:κ->κ->Bool}{l:List (κ×ν)}{x:κ}{v:ν}{i:Nat}{p:κ×ν}(h:(mG eq l x v)[i]?=some p):p.2=v\/(l[i]?=some p/\eq x p.1=false)\/(l.any fun p=>eq x p.1)=false/\l[i]?=some p:=by
 unfold mG at h;split at h
 . rw[List.getElem?_map]at h;obtain⟨q,hq,rfl⟩:=ab.1 h;split
   . exact .inl rfl
   . rename_i hn;exact .inr (.inl ⟨hq,by simpa using hn⟩)
 . rename_i hn;rcases Nat.lt_or_ge i l.length with h1|h1
   . rw[List.getElem?_append_left h1]at h;exact .inr (.inr ⟨by simpa using hn,h⟩)
   . rw[List.getElem?_append_right h1]at h;obtain⟨h2,h3⟩:=List.getElem?_eq_some_iff.1 h;have:i-l.length=0:=by simp at h2;omega
     simp only[this,List.getElem_cons_zero]at h3;subst h3;exact .inl rfl
theorem TP{κ ν:Type}{et:TypeId}{sz:Nat}{gh:Gh}{ll:List (κ×(ν×Option Gh))}{j:Nat}{p:κ×(ν×Option Gh)}(h:ll[j]?=some p)(x:κ)(v:ν):∃D,List.Perm (ll.filterMap (nC et sz)++[bR.row gh.g et (gh.cap*sz) (gh.n*sz)]) (D++(ll.set j (x,(v,some gh))).filterMap (nC et sz)):=by
 cases hp:p.2.2 with
 |none=>exact⟨[],(List.perm_append_singleton _ _).trans (OH rfl h hp).symm⟩
 |some gh0=>
  have h1:=yf (et:=et) (sz:=sz) (p':=(p.1,(p.2.1,none))) rfl h hp
  have hj:j<ll.length:=(List.getElem?_eq_some_iff.1 h).1
  have h2:(ll.set j (p.1,(p.2.1,none)))[j]?=some (p.1,(p.2.1,none)):=List.getElem?_set_self hj
  have h3:=OH (et:=et) (sz:=sz) (gh:=gh) (p':=(x,(v,some gh))) rfl h2 rfl
  rw[List.set_set]at h3
  refine⟨[bR.row gh0.g et (gh0.cap*sz) (gh0.n*sz)],?_⟩
  refine((List.perm_append_singleton _ _).trans (h1.cons _)).trans ?_
  exact(List.Perm.swap _ _ _).trans (h3.symm.cons _)
theorem SK{α:Type}{eq:α->α->Bool}{x:α}{hole:Option α}{k0:Option γ}(h:N4 eq x hole k0=some r):k0=some r/\∀y,hole=some y->eq x y=true:=by
 unfold N4 at h
 cases hole with
 |none=>exact⟨h,fun y hy=>by cases hy⟩
 |some y=>
  obtain⟨u,h1,h2⟩:=aa.1 h
  exact⟨h2,fun z hz=>by cases hz;exact gi h1⟩
theorem WN(hT:dx P K tt){t:TypeId}{x y z:Operand}(ho:o.op=.mapUpdate t x y z){v:CV S}{key:AV S}{w:CV S}(h:Fs tb tt t v key w ob k=some r):dT P K o [.one v,key,.one w] ob ct k r:=by
 have hox:o.op.operands.toList=[x,y,z]:=by rw[ho];rfl
 unfold Fs at h;obtain⟨⟨i1,i2,ec⟩,hi,h1⟩:=aa.1 h;simp only at h1;obtain⟨cs,hcs,h2⟩:=aa.1 h1;obtain⟨xk,hxk,h4⟩:=aa.1 h2;obtain⟨kt,se,hu,hec,hz,HK⟩:=zq hT hi;simp only at hec HK;split at h4
 . rename_i q p d l2;obtain⟨⟨ver,ao⟩,hq,h5⟩:=aa.1 h4;obtain⟨⟨ver2,ao2⟩,hp,h6⟩:=aa.1 h5;split at h6
   . rename_i t' et kc c l hole et' c' hao hao2;simp only at hao hao2;subst hao;subst hao2;split at h6
     . rename_i hk hv hc hd he q1 q2 q3 q4;clear h h1 h2 h4 h5;cases hk;cases hv;cases hc;cases hd;simp only[al]at he;have he2:=ah he.2.1;have he3:=ah he.2.2;subst he2;subst he3;obtain⟨h7,hhole⟩:=SK h6;simp only[XG]at hhole;refine⟨_,h7,by simp,fun g a m Lr Lm hf _ ha hr hm hO=>?_⟩;simp only[pick,eW]at hr;subst hr;simp only[pick,hq,hp,eW]at hm;obtain⟨e1,L1,rfl,_,hob,e2,L2,rfl,_,hob2,rfl⟩:=hm;rw[hox]at ha;obtain⟨hv,hw,hz⟩:=tF ha;simp only[bP,bM]at hv hz;obtain⟨gh,b,k1,k2,k3⟩:=hv;obtain⟨ghw,l0,ad,w1,w2,w3⟩:=hz;have hx:a.eval x=.map (some b):=by simpa using k3
       have hz':a.eval z=.slice ad l2.length (ghw.cap-l0.length):=by simpa using w2
       obtain⟨gh2,r1,rfl⟩:=hob2;rw[w1]at r1;have r2:=ax r1;subst r2;obtain⟨es,clock,ll,rfl,hM,rfl,hh⟩:=zr hob k1 k2;have hO':Ow m [bR.cat (.obj b (.map es clock)::ll.filterMap (nC et' (zK K i2))),bR.row ghw.g et' (ghw.cap*zK K i2) (ghw.n*zK K i2)]:=by simpa using hO
       have hb:=CA hO';have hkR:=jU hcs hxk hw;have hH:fS P kt (dv K i1 m) (iX tb i1):=HK.sub fun x v h=>⟨m,h⟩
       have hst:=(MapKept.stamped_iff es clock).1 hM.st;obtain⟨es',clock',hrun,hM',_⟩:=BX hH hu hb hM hkR (v:=(l2,some ghw)) (val:=a.eval z) (by unfold Q4;exact⟨l0,ad,hz',w3⟩);have hrun':(execOp a.eval o).run P m.w=.ok .skip (setBlock m.w b (.map es' clock')):=by
        simp[execOp,ho,hx,hrun]
       unfold bI;rw[hrun'];have hD:∃D,List.Perm (ll.filterMap (nC et' (zK K i2))++[bR.row ghw.g et' (ghw.cap*zK K i2) (ghw.n*zK K i2)]) (D++((mG (iX tb i1) ll xk (l2,some ghw)).filterMap (nC et' (zK K i2))++[])):=by
        rw[aW];rcases hH.find m.w hkR es.toList hM.keys with⟨_,hno⟩|⟨j,e0,_,hj,hke⟩
        . obtain⟨a1,_⟩:=any_none hH hkR hM.vw hno;have:mG (iX tb i1) ll xk (l2,some ghw)=ll++[(xk,(l2,some ghw))]:=by unfold mG;rw[if_neg (by rw[a1];simp)]
          rw[this,List.filterMap_append];exact⟨[],List.Perm.refl _⟩
        . obtain⟨pp,hlj,_,c3,_,c5,_⟩:=any_some hH hkR hM.vw hst.2.2 hj hke;have:mG (iX tb i1) ll xk (l2,some ghw)=ll.set j (xk,(l2,some ghw)):=by unfold mG;rw[if_pos c3,c5]
          rw[this];exact TP hlj _ _
       obtain⟨D,hD⟩:=hD;have hS:=Uq (q':= .map es' clock') hO' (mI hb _) (by simp[setBlock]) (heap_setBlock_same hb _) hD;refine⟨⟨setBlock m.w b (.map es' clock'),m.ok⟩,g,_,rfl,by simpa using hS,GE.refl g,rfl,rfl,fun i h=>absurd rfl h,⟨_,[],rfl,⟨gh,b,es',clock',mG (iX tb i1) ll xk (l2,some ghw),k1,k2,rfl,?_,?_,?_⟩,rfl⟩,?_⟩
       . exact hM'.mono (fun _ _ h=>dv.mono K hS.le h) (fun _ _ h=>Q4.mono K hS.le h)
       . exact(S7 (iX tb i1) (fun p:List (T S i2)×Option Gh=>p.1) ll xk (l2,some ghw)).symm
       . intro i u hu;rcases S8 hu with h1|⟨h1,h2⟩|⟨h1,h2⟩
         . rw[h1];simp
         . intro hn
           cases hole with
           |none=>exact hh i u h1 hn
           |some y=>
            have hy:=hhole y rfl
            obtain⟨e,he⟩:∃e,es.toList[i]?=some e:=by
             have hl:=hM.vw.len;have hi:=(List.getElem?_eq_some_iff.1 h1).1;exact⟨_,List.getElem?_eq_getElem (by omega)⟩
            have hky:=hh i u e h1 he hn
            obtain⟨u',hu',hen⟩:=hM.vw.at he
            rw[h1]at hu';cases hu'
            have e1:=(hH.eqv _ _ _ _ hkR hky).1 hy
            have e2:=(hH.eqv _ _ _ _ hkR hen.1).2 e1
            rw[h2]at e2;cases e2
         . intro hn
           cases hole with
           |none=>exact hh i u h2 hn
           |some y=>
            have hy:=hhole y rfl
            obtain⟨e,he⟩:∃e,es.toList[i]?=some e:=by
             have hl:=hM.vw.len;have hi:=(List.getElem?_eq_some_iff.1 h2).1;exact⟨_,List.getElem?_eq_getElem (by omega)⟩
            have hky:=hh i u e h2 he hn
            obtain⟨u',hu',hen⟩:=hM.vw.at he
            rw[h2]at hu';cases hu'
            have e1:=(hH.eqv _ _ _ _ hkR hky).1 hy
            have e2:=(hH.eqv _ _ _ _ hkR hen.1).2 e1
            have:=List.any_eq_false.1 h1 u (List.mem_of_getElem? h2)
            rw[e2]at this;exact this rfl
       . simp[AV.gH,bP,db,undef]
     . cases h6
   . cases h6
 . cases h4
theorem Fx{q b:Nat}{gh:Gh}{t:TypeId}{kc:Co}{l:List (T S kc×CV S)}{e:bR}(hob:iY K g m q (.EP t kc l) e)(k1:g.bk q=some gh)(k2:gh.g=some b):
 ∃es clock,e=.obj b (.map es clock)/\jZ (dv K kc m) (fun y v=>Y6 y=true/\bM K g m y [v]) es clock l:=by
 obtain⟨gh',b',es,clock,j1,j2,rfl,j4⟩:=hob
 rw[k1]at j1;have e1:=ax j1;subst e1
 rw[k2]at j2;have e2:=ax j2;subst e2
 exact⟨es,clock,rfl,j4⟩
theorem Ou(hT:dx P K tt){t:TypeId}{x y z:Operand}(ho:o.op=.mapUpdate t x y z\/o.op=.insert t x y z){v:CV S}{key w:AV S}(h:Di tb tt t v key w ob k=some r):dT P K o [.one v,key,w] ob ct k r:=by
 have hox:o.op.operands.toList=[x,y,z]:=by rcases ho with ho|ho<;>rw[ho]<;>rfl
 unfold Di at h;obtain⟨i,hi,h1⟩:=aa.1 h;obtain⟨cs,hcs,h2⟩:=aa.1 h1;obtain⟨xk,hxk,h4⟩:=aa.1 h2;obtain⟨kt,se,hu,hz,HK⟩:=Fw hT hi;split at h4
 . rename_i q f;obtain⟨⟨ver,ao⟩,hq,h5⟩:=aa.1 h4;split at h5
   . rename_i t' kc l hao;simp only at hao;subst hao;split at h5
     . rename_i hk he q1;clear h h1 h2 h4;cases hk;split at h5
       . cases h5
       . rename_i hany;simp only[I0]at hany;simp only[al]at he;refine⟨_,h5,by simp,fun g a m Lr Lm hf _ ha hr hm hO=>?_⟩;simp only[pick,eW]at hr;subst hr;rw[hox]at ha;obtain⟨hv,hw,hy⟩:=tF ha;simp only[bP,bM]at hv hy;obtain⟨gh,b,k1,k2,k3⟩:=hv;have hx:a.eval x=.map (some b):=by simpa using k3
         obtain⟨e,rfl,_,hob⟩:=dA hm hq;obtain⟨es,clock,rfl,hM⟩:=Fx hob k1 k2;have hO':Ow m [bR.obj b (.map es clock)]:=by simpa using hO
         have hb:m.w.heap[b]?=some (.map es clock):=hO'.ok _ aq;have hkR:=jU hcs hxk hw;have hH:fS P kt (dv K i m) (iX tb i):=HK.sub fun x v h=>⟨m,h⟩
         obtain⟨es',clock',hrun,hM',_⟩:=BX hH hu hb hM hkR (v:=f) (val:=a.eval z) ⟨he.2,hy⟩;have hrun':(execOp a.eval o).run P m.w=.ok .skip (setBlock m.w b (.map es' clock')):=by
          rcases ho with ho|ho<;>simp[execOp,ho,hx,hrun]
         unfold bI;rw[hrun'];have hS:=(St.refl hO').lN (mI hb (.map es' clock')) (by simp[setBlock]) (heap_setBlock_same hb (.map es' clock'));rw[show mG (iX tb i) l xk f=l++[(xk,f)] from by unfold mG;rw[hany];rfl]at hM';refine⟨_,g,[.obj b (.map es' clock')],rfl,by simpa using hS,GE.refl g,rfl,rfl,fun i h=>absurd rfl h,⟨_,[],rfl,⟨gh,b,es',clock',k1,k2,rfl,?_⟩,rfl⟩,by simp[AV.gH,bP,db,undef]⟩;exact hM'.mono (fun _ _ h=>dv.mono K hS.le h) fun _ _ h=>⟨h.1,h.2.mono (GE.refl g) hS.le⟩
     . cases h5
   . cases h5
 . cases h4
theorem Jx{q:Nat}{c:Co}{x:T S c}:∀{l:List (T S c×CV S)},Dh tb q c x k l=some r->k {v:=.one ((gI (iX tb c) l x).getD .fB),rd:=[q]}=some r
 |[],h=>h
 |p::l,h=>by
  unfold Dh at h;unfold gI;rw[List.find?_cons];split at h
  . rename_i hp;rw[hp];exact h
  . rename_i hp;rw[Bool.not_eq_true]at hp;rw[hp];exact Jx h
theorem Mj(hT:dx P K tt){t:TypeId}{x y:Operand}{c:Bool}(ho:o.op=.lookup t x y c){v:CV S}{key:AV S}(h:zy tb tt t v key c ob k=some r):dT P K o [.one v,key] ob ct k r:=by
 have hox:o.op.operands.toList=[x,y]:=by rw[ho];rfl
 unfold zy at h;obtain⟨i,hi,h1⟩:=aa.1 h;obtain⟨cs,hcs,h2⟩:=aa.1 h1;obtain⟨xk,hxk,h4⟩:=aa.1 h2;obtain⟨kt,se,hu,hz,HK⟩:=Fw hT hi;split at h4
 . rename_i q;obtain⟨⟨ver,ao⟩,hq,h5⟩:=aa.1 h4;split at h5
   . rename_i t' kc l hao;simp only at hao;subst hao;split at h5
     . rename_i hk he q1;clear h h1 h2 h4;cases hk;simp only[I0]at h5;refine⟨_,Jx h5,by simp,fun g a m Lr Lm hf _ ha hr hm hO=>?_⟩;simp only[pick,eW]at hm;subst hm;rw[hox]at ha;obtain⟨hv,hw⟩:=eo ha;simp only[bP,bM]at hv;obtain⟨gh,b,k1,k2,k3⟩:=hv;have hx:a.eval x=.map (some b):=by simpa using k3
       obtain⟨e,rfl,_,hob⟩:=dA hr hq;obtain⟨es,clock,rfl,hM⟩:=Fx hob k1 k2;have hb:m.w.heap[b]?=some (.map es clock):=(show Ow m [bR.obj b (.map es clock)]by simpa using hO).ok _ aq;have hkR:=jU hcs hxk hw;have hH:fS P kt (dv K i m) (iX tb i):=HK.sub fun x v h=>⟨m,h⟩
       obtain⟨u,hu1,hu2⟩:=tQ hH hu (hz m.w) hb hM hkR false;have hrun:(execOp a.eval o).run P m.w=.ok (.value u) m.w:=by
        simp[execOp,ho,hx,hu2]
       refine bI.val hrun (AA.pure rfl (by simpa using hO) ?_);simp only[bP]
       cases hm:gI (iX tb i) l xk with
       |none=>rw[hm]at hu1;subst hu1;simp[bM]
       |some f=>rw[hm]at hu1;exact hu1.2
     . cases h5
   . cases h5
 . cases h4
end E
end
end Go.Proofs.YtjfkdglgecgjfaaGreat
