/- Part of the proof. -/
import Derived.Test.YtekpafdhgkocaaaGreatZPure
import Derived.Maps.Keyed
import Derived.Maps.RangeRun
import Derived.Test.YtekpafdhgkocaaaGreatZPV7
namespace Go.Proofs.YtekpafdhgkocaaaGreat
section
open Go.Maps (Keyed)
open Go.ChangeMaps (setBlock heap_setBlock_same heap_setBlock_other)
open G
section
variable {κ ν:Type}{kR:κ->Value->Prop}{vR vR':ν->Value->Prop}{eq:κ->κ->Bool}{P:Program}{kt kt2 et t ty:TypeId}{w:World}{b clock:Nat}{es:Array MapEntry}{l:List (κ×ν)}{k:κ}{key:Value}
structure lf(P:Program)(kt:TypeId)(kR:κ->Value->Prop)(eq:κ->κ->Bool):Prop where
 check:∀ (w:World) (em:Bool) {x:κ} {v:Value},kR x v->(Instr.checkKey em 10000 kt v).run P w= .ok () w
 find:∀ (w:World) {x:κ} {v:Value},kR x v->∀ es:List MapEntry,(∀ e∈es,∃ y,kR y e.key)->
  ((Instr.findKey kt v es).run P w= .ok none w/\∀ e∈es,e.key≠v)\/∃ j e,(Instr.findKey kt v es).run P w= .ok (some (j,e.val)) w/\es[j]?=some e/\e.key=v
 stays:∀ (w:World) {x:κ} {v:Value},kR x v->(Instr.keyThatStays v v).run P w= .ok v w
 eqv:∀ x y v w,kR x v->kR y w->(eq x y=true↔v=w)
theorem lf.sub{kR':κ->Value->Prop}(H:lf P kt kR eq)(h:∀ x v,kR' x v->kR x v):lf P kt kR' eq:=
 ⟨fun w em _ _ hk=>H.check w em (h _ _ hk),fun w _ _ hk es he=>H.find w (h _ _ hk) es fun e hm=>let⟨y,hy⟩:=he e hm;⟨y,h _ _ hy⟩,fun w _ _ hk=>H.stays w (h _ _ hk),fun x y v w h1 h2=>H.eqv x y v w (h _ _ h1) (h _ _ h2)⟩
theorem Pe{d:TypeDesc}(hk:P.underlying kt=some d)(hK:∀ x v,kR x v->MapKept.IsKey d v)(he:∀ x y v w,kR x v->kR y w->(eq x y=true↔v=w)):lf P kt kR eq:=by
 refine⟨fun w em x v h=>MapKept.run_checkKey hk (hK _ _ h) em 9999,fun w x v h es hes=>?_,fun w x v h=>MapKept.run_keyThatStays (hK _ _ h),he⟩
 rcases MapKept.findNow_spec (hK _ _ h) es 0 (fun e hm=>let⟨y,hy⟩:=hes e hm;hK _ _ hy)with⟨h1,h2⟩|⟨j,e0,h1,h2,h3⟩
 . exact .inl ⟨MapKept.run_findKey hk h1,h2⟩
 . exact .inr ⟨j,e0,by simpa using MapKept.run_findKey (P:=P) (w:=w) hk h1,h2,h3⟩
theorem VG{fs:Array Field}(hk:P.underlying kt=some (.struct fs))(hc:∀ (w:World) (em:Bool) {x:κ} {v:Value},kR x v->(Instr.checkKey em 10000 kt v).run P w= .ok () w)
 (hs:∀ (w:World) {x:κ} {v:Value},kR x v->(Instr.keyThatStays v v).run P w= .ok v w) (he:∀ x y v w,kR x v->kR y w->(eq x y=true↔v=w))
 (hq:∀ (w:World) {x y:κ} {v u:Value},kR x v->kR y u->(Op.equal kt v u).run P w= .ok (eq x y) w):lf P kt kR eq:=by
 refine⟨hc,fun w x v h es hes=>?_,hs,he⟩
 have ask:∀ (es:List MapEntry) (i:Nat),(∀ e∈es,∃ y,kR y e.key)->((Instr.findAsking kt v es i).run P w= .ok none w/\∀ e∈es,e.key≠v)\/∃ j e,(Instr.findAsking kt v es i).run P w= .ok (some (i+j,e.val)) w/\es[j]?=some e/\e.key=v:=by
  intro es
  induction es with
  | nil=>intro i _;exact .inl ⟨rfl,by simp⟩
  | cons e es ih=>
    intro i hes
    obtain⟨y,hy⟩:=hes e ay
    have h1:=hq w h hy
    cases hb:eq x y with
    | true=>
      rw[hb]at h1
      exact .inr ⟨0,e,by simp[Instr.findAsking,h1,Result.andThen],rfl,((he _ _ _ _ h hy).1 hb).symm⟩
    | false=>
      rw[hb]at h1
      have hne:e.key≠v:=fun e1=>by have:=(he _ _ _ _ h hy).2 e1.symm;rw[hb]at this;cases this
      rcases ih (i+1) (fun e hm=>hes e (aE _ hm))with⟨k1,k2⟩|⟨j,e0,k1,k2,k3⟩
      . exact .inl ⟨by simp[Instr.findAsking,h1,k1,Result.andThen],fun e' he'=>by
         rcases aV.1 he' with rfl|he'
         . exact hne
         . exact k2 e' he'⟩
      . exact .inr ⟨j+1,e0,by simp[Instr.findAsking,h1,k1,Result.andThen];omega,by simpa using k2,k3⟩
 cases es with
 | nil=>exact .inl ⟨by simp[Instr.findKey,run_underlying hk,Instr.findNow,Result.andThen],by simp⟩
 | cons e es=>
   have hn:Instr.findNow (.struct fs) v (e::es) 0=none:=by
    unfold Instr.findNow Instr.sameNow;rfl
   rcases ask (e::es) 0 hes with⟨k1,k2⟩|⟨j,e0,k1,k2,k3⟩
   . exact .inl ⟨by simp[Instr.findKey,run_underlying hk,hn,k1,Result.andThen],k2⟩
   . exact .inr ⟨j,e0,by simp[Instr.findKey,run_underlying hk,hn,k1,Result.andThen],k2,k3⟩
def RQ(kR:κ->Value->Prop)(vR:ν->Value->Prop)(e:MapEntry)(p:κ×ν):Prop:=kR p.1 e.key/\vR p.2 e.val
def sH(R:MapEntry->κ×ν->Prop):List MapEntry->List (κ×ν)->Prop
 | [],[]=>True
 | e::es,p::l=>R e p/\sH R es l
 | _,_=>False
theorem sH.len{R:MapEntry->κ×ν->Prop}:∀ {es:List MapEntry} {l:List (κ×ν)},sH R es l->es.length=l.length
 | [],[],_=>rfl
 | _::_,_::_,h=>by simp[sH.len h.2]
theorem sH.mono{R R':MapEntry->κ×ν->Prop}(hR:∀ e p,R e p->R' e p):∀ {es:List MapEntry} {l:List (κ×ν)},sH R es l->sH R' es l
 | [],[],_=>trivial
 | _::_,_::_,h=>⟨hR _ _ h.1,sH.mono hR h.2⟩
theorem sH.app{R:MapEntry->κ×ν->Prop}{e:MapEntry}{p:κ×ν}(hp:R e p):∀ {es:List MapEntry} {l:List (κ×ν)},sH R es l->sH R (es++[e]) (l++[p])
 | [],[],_=>⟨hp,trivial⟩
 | _::_,_::_,h=>⟨h.1,sH.app hp h.2⟩
theorem sH.mem{R:MapEntry->κ×ν->Prop}:∀ {es:List MapEntry} {l:List (κ×ν)},sH R es l->∀ e∈es,∃ p∈l,R e p
 | _::_,_::_,h,e,he=>by
   rcases aV.1 he with rfl|he
   . exact⟨_,ay,h.1⟩
   . obtain⟨p,hp,hr⟩:=sH.mem h.2 e he
     exact⟨p,aE _ hp,hr⟩
theorem sH.at{R:MapEntry->κ×ν->Prop}:∀ {es:List MapEntry} {l:List (κ×ν)} {j:Nat} {e:MapEntry},sH R es l->es[j]?=some e->∃ p,l[j]?=some p/\R e p
 | _::_,_::_,0,_,h,he=>by simp at he;subst he;exact⟨_,rfl,h.1⟩
 | _::_,_::_,j+1,_,h,he=>by simp at he;simpa using sH.at h.2 he
 | [],[],_,_,_,he=>by simp at he
theorem sH.set{R:MapEntry->κ×ν->Prop}{e:MapEntry}{p:κ×ν}(hp:R e p):∀ {es:List MapEntry} {l:List (κ×ν)} (j:Nat),sH R es l->sH R (es.set j e) (l.set j p)
 | [],[],_,_=>trivial
 | _::_,_::_,0,h=>⟨hp,h.2⟩
 | _::_,_::_,j+1,h=>⟨h.1,sH.set hp j h.2⟩
theorem sH.erase{R:MapEntry->κ×ν->Prop}:∀ {es:List MapEntry} {l:List (κ×ν)} (j:Nat),sH R es l->sH R (es.eraseIdx j) (l.eraseIdx j)
 | [],[],_,_=>trivial
 | _::_,_::_,0,h=>h.2
 | _::_,_::_,j+1,h=>⟨h.1,sH.erase j h.2⟩
structure ri(kR:κ->Value->Prop)(vR:ν->Value->Prop)(es:Array MapEntry)(clock:Nat)(l:List (κ×ν)):Prop where
 st:MapKept.Stamped es clock
 BP:sH (RQ kR vR) es.toList l
theorem ri.mono{kR':κ->Value->Prop}(hk:∀ x v,kR x v->kR' x v)(hv:∀ x v,vR x v->vR' x v)(h:ri kR vR es clock l):ri kR' vR' es clock l:=⟨h.st,h.BP.mono fun _ _ h=>⟨hk _ _ h.1,hv _ _ h.2⟩⟩
theorem ri.nil:ri kR vR #[] 0 []:=⟨MapKept.stamped_empty 0,trivial⟩
theorem ri.keys(h:ri kR vR es clock l):∀ e∈es.toList,∃ y,kR y e.key:=fun e he=>by
 obtain⟨p,_,hp⟩:=h.BP.mem e he
 exact⟨_,hp.1⟩
theorem any_none(H:lf P kt kR eq)(hk:kR k key):∀ {es:List MapEntry} {l:List (κ×ν)},sH (RQ kR vR) es l->(∀ e∈es,e.key≠key)->(l.any fun p=>eq k p.1)=false/\(l.find? fun p=>eq k p.1)=none
 | [],[],_,_=>⟨rfl,rfl⟩
 | e::es,p::l,h,hn=>by
   obtain⟨h1,h2⟩:=any_none H hk h.2 fun e he=>hn e (aE _ he)
   have h0:eq k p.1=false:=by
    cases hq:eq k p.1 with
    | false=>rfl
    | true=>exact absurd ((H.eqv _ _ _ _ hk h.1.1).1 hq).symm (hn e ay)
   exact⟨by rw[List.any_cons,h0,h1];rfl,by rw[List.find?_cons,h0];exact h2⟩
theorem any_some(H:lf P kt kR eq)(hk:kR k key):∀ {es:List MapEntry} {l:List (κ×ν)} {j:Nat} {e:MapEntry},sH (RQ kR vR) es l->es.Pairwise (fun x y=>x.key≠y.key)->es[j]?=some e->e.key=key->
 ∃ p,l[j]?=some p/\RQ kR vR e p/\(l.any fun p=>eq k p.1)=true/\(l.find? fun p=>eq k p.1)=some p/\(∀ v,l.map (fun p=>if eq k p.1=true then(k,v)else p)=l.set j (k,v))/\(l.filter fun p=>!eq k p.1)=l.eraseIdx j
 | e0::es,p::l,0,e,h,hp,hj,hey=>by
   simp at hj;subst hj
   have h0:eq k p.1=true:=(H.eqv _ _ _ _ hk h.1.1).2 hey.symm
   obtain⟨n1,n2⟩:=List.pairwise_cons.1 hp
   have hno:∀ x∈es,x.key≠key:=fun x hx=>by rw[<- hey];exact(n1 x hx).symm
   obtain⟨a1,_⟩:=any_none H hk h.2 hno
   have hall:∀ q∈l,eq k q.1=false:=fun q hq=>by
    have:=List.any_eq_false.1 a1 q hq
    simpa using this
   refine⟨p,rfl,h.1,by rw[List.any_cons,h0];rfl,by rw[List.find?_cons,h0],fun v=>?_,?_⟩
   . rw[aP,if_pos h0,List.set_cons_zero]
     congr 1
     refine(List.map_congr_left fun q hq=>?_).trans (List.map_id _)
     rw[if_neg (by rw[hall q hq];simp)];rfl
   . rw[List.filter_cons,if_neg (by rw[h0];simp),List.eraseIdx_cons_zero]
     exact List.filter_eq_self.2 fun q hq=>by rw[hall q hq];rfl
 | e0::es,p::l,j+1,e,h,hp,hj,hey=>by
   simp at hj
   obtain⟨n1,n2⟩:=List.pairwise_cons.1 hp
   have h0:eq k p.1=false:=by
    cases hq:eq k p.1 with
    | false=>rfl
    | true=>
      have e1:=(H.eqv _ _ _ _ hk h.1.1).1 hq
      exact absurd (e1.symm.trans hey.symm) (n1 e (List.mem_of_getElem? hj))
   obtain⟨q,q1,q2,q3,q4,q5,q6⟩:=any_some H hk h.2 n2 hj hey
   refine⟨q,by simpa using q1,q2,by rw[List.any_cons,h0,q3];rfl,by rw[List.find?_cons,h0];exact q4,fun v=>?_,?_⟩
   . rw[aP,if_neg (by rw[h0];simp),q5 v,List.set_cons_succ]
   . rw[List.filter_cons,if_pos (by rw[h0];rfl),q6,List.eraseIdx_cons_succ]
theorem Ax(H:lf P kt kR eq)(ht:P.underlying t=some (.map kt et)){z:Value}(hz:(zeroValue et).run P w= .ok z w)(hb:w.heap[b]?=some (.map es clock))(h:ri kR vR es clock l)(hk:kR k key)(c:Bool):
 ∃ v,(match dG eq l k with|some x=>vR x v|none=>v=z)/\(Instr.lookup t (.map (some b)) key c).run P w= .ok (if c then .tuple #[v, .bool (dG eq l k).isSome]else v) w:=by
 have hst:=(MapKept.stamped_iff es clock).1 h.st
 unfold dG
 rcases H.find w hk es.toList h.keys with⟨h1,h2⟩|⟨j,e0,h1,h2,h3⟩
 . obtain⟨_,a2⟩:=any_none H hk h.BP h2
   rw[a2]
   exact⟨z,rfl,by simp[Instr.lookup,run_underlying ht,MapKept.run_getObj_map hb,H.check w _ hk,h1,hz,Result.andThen]⟩
 . obtain⟨p,p1,p2,p3,p4,_⟩:=any_some H hk h.BP hst.2.2 h2 h3
   rw[p4]
   exact⟨e0.val,p2.2,by simp[Instr.lookup,run_underlying ht,MapKept.run_getObj_map hb,H.check w _ hk,h1,Result.andThen]⟩
theorem F6(H:lf P kt kR eq)(ht:P.underlying t=some (.map kt et))(hb:w.heap[b]?=some (.map es clock))(h:ri kR vR es clock l)(hk:kR k key){v:ν}{val:Value}(hv:vR v val):
 ∃ es' clock',(Instr.mapUpdate t (.map (some b)) key val).run P w= .ok () (setBlock w b (.map es' clock'))/\ri kR vR es' clock' (kZ eq l k v)/\
  ((l.any fun p=>eq k p.1)=true->clock'=clock/\es'.toList.map (fun e=>(e.key,e.born))=es.toList.map (fun e=>(e.key,e.born))):=by
 have hst:=(MapKept.stamped_iff es clock).1 h.st
 unfold kZ
 rcases H.find w hk es.toList h.keys with⟨h1,h2⟩|⟨j,e0,h1,h2,h3⟩
 . obtain⟨a1,_⟩:=any_none H hk h.BP h2
   rw[a1]
   refine⟨es.push ⟨key,val,clock⟩,clock+1,?_,⟨MapKept.stamped_push h.st h2,?_⟩,fun hf=>by cases hf⟩
   . simp[Instr.mapUpdate,run_underlying ht,MapKept.run_getObj_map hb,H.check w false hk,h1,MapKept.run_setObj_map _ hb,Result.andThen,setBlock]
   . rw[Array.toList_push]
     exact h.BP.app ⟨hk,hv⟩
 . obtain⟨p,p1,p2,p3,_,p5,_⟩:=any_some H hk h.BP hst.2.2 h2 h3
   rw[p3,if_pos rfl,p5]
   have hj:es[j]?=some e0:=by simpa using h2
   have hkeyf:∀ e',es[j]?=some e'->({e' with key:=key,val:=val}:MapEntry).key=e'.key:=fun e' he'=>by rw[hj]at he';cases he';exact h3.symm
   have hlist:(es.modify j (fun e'=>{e' with key:=key,val:=val})).toList=es.toList.set j {e0 with key:=key,val:=val}:=by rw[Array.toList_modify,ChangeMaps.modify_eq_set _ _ _ _ h2]
   refine⟨es.modify j (fun e'=>{e' with key:=key,val:=val}),clock,?_,⟨MapKept.stamped_modify h.st _ _ (fun _ _=>rfl) (fun e' _ he'=>hkeyf e' he'),?_⟩,fun _=>⟨rfl,?_⟩⟩
   . simp[Instr.mapUpdate,run_underlying ht,MapKept.run_getObj_map hb,H.check w false hk,h1,hj,h3,H.stays w hk,MapKept.run_setObj_map _ hb,Result.andThen,setBlock]
   . rw[hlist]
     exact h.BP.set ⟨hk,hv⟩ j
   . rw[hlist,List.map_set]
     refine List.ext_getElem? fun i=>?_
     rw[List.getElem?_set]
     split
     . rename_i e;subst e
       have hjl:j<es.toList.length:=(List.getElem?_eq_some_iff.1 h2).1
       rw[List.getElem?_map,h2,aI,if_pos hjl]
       simp[h3]
     . rfl
theorem Wj(H:lf P kt kR eq)(ht:P.underlying t=some (.map kt et))(hb:w.heap[b]?=some (.map es clock))(h:ri kR vR es clock l)(hk:kR k key):
 ∃ es',(Builtin.delete_ #[t,kt2] ty #[.map (some b),key]).run P w= .ok (.tuple #[]) (setBlock w b (.map es' clock))/\ri kR vR es' clock (QM eq l k):=by
 have hst:=(MapKept.stamped_iff es clock).1 h.st
 unfold QM
 rcases H.find w hk es.toList h.keys with⟨h1,h2⟩|⟨j,e0,h1,h2,h3⟩
 . obtain⟨a1,_⟩:=any_none H hk h.BP h2
   have hf:(l.filter fun p=>!eq k p.1)=l:=List.filter_eq_self.2 fun p hp=>by
    have:=List.any_eq_false.1 a1 p hp
    simpa using this
   rw[hf]
   exact⟨es,by simp[Builtin.delete_,run_underlying ht,MapKept.run_getObj_map hb,H.check w _ hk,h1,MapKept.run_setObj_map _ hb,Result.andThen,setBlock],h⟩
 . obtain⟨p,p1,p2,p3,_,_,p6⟩:=any_some H hk h.BP hst.2.2 h2 h3
   rw[p6]
   have hjl:j<es.toList.length:=(List.getElem?_eq_some_iff.1 h2).1
   have hjs:j<es.size:=by simpa using hjl
   have hsub:(es.eraseIdxIfInBounds j).toList=es.toList.eraseIdx j:=by
    unfold Array.eraseIdxIfInBounds
    rw[dif_pos hjs]
    simp
   refine⟨es.eraseIdxIfInBounds j,?_,⟨MapKept.stamped_erase h.st j,?_⟩⟩
   . simp[Builtin.delete_,run_underlying ht,MapKept.run_getObj_map hb,H.check w _ hk,h1,MapKept.run_setObj_map _ hb,Result.andThen,setBlock]
   . rw[hsub];exact h.BP.erase j
theorem MG(H:lf P kt kR eq)(ht:P.underlying t=some (.map kt et)){z:Value}(hz:(zeroValue et).run P w= .ok z w)(hb:w.heap[b]?=some (.map es clock))(h:ri kR vR es clock l)(hk:kR k key):
 (∃ (j:Nat) (e0:MapEntry) (p:κ×ν),es.toList[j]?=some e0/\l[j]?=some p/\RQ kR vR e0 p/\e0.key=key/\(l.any fun p=>eq k p.1)=true/\(l.find? fun p=>eq k p.1)=some p/\(Instr.mapEntry t (.map (some b)) key).run P w= .ok (.tuple #[e0.val, .int .i64 (e0.born:Int)]) (setBlock w b (.map es clock)))\/
 ((l.any fun p=>eq k p.1)=false/\(l.find? fun p=>eq k p.1)=none/\(∀ e∈es.toList,e.key≠key)/\(Instr.mapEntry t (.map (some b)) key).run P w= .ok (.tuple #[z, .int .i64 (clock:Int)]) (setBlock w b (.map (es.push ⟨key,z,clock⟩) (clock+1)))):=by
 have hst:=(MapKept.stamped_iff es clock).1 h.st
 rcases H.find w hk es.toList h.keys with⟨h1,h2⟩|⟨j,e0,h1,h2,h3⟩
 . obtain⟨a1,a2⟩:=any_none H hk h.BP h2
   refine .inr ⟨a1,a2,h2,?_⟩
   simp[Instr.mapEntry,run_underlying ht,MapKept.run_getObj_map hb,H.check w false hk,h1,hz,MapKept.run_setObj_map _ hb,Result.andThen,setBlock,goInt]
 . obtain⟨p,p1,p2,p3,p4,_,_⟩:=any_some H hk h.BP hst.2.2 h2 h3
   have hj:es[j]?=some e0:=by simpa using h2
   have hsame:es.modify j (fun e=>{e with key:=key})=es:=by
    apply Array.ext'
    rw[Array.toList_modify,ChangeMaps.modify_eq_set _ _ _ _ h2]
    refine List.ext_getElem? fun i=>?_
    rw[List.getElem?_set]
    split
    . rename_i e;subst e
      rw[if_pos (List.getElem?_eq_some_iff.1 h2).1,h2,<- h3]
    . rfl
   refine .inl ⟨j,e0,p,h2,p1,p2,h3,p3,p4,?_⟩
   simp[Instr.mapEntry,run_underlying ht,MapKept.run_getObj_map hb,H.check w false hk,h1,hj,h3,H.stays w hk,MapKept.run_setObj_map _ hb,Result.andThen,setBlock,goInt,hsame]
theorem PF(hst:MapKept.Stamped es clock){j:Nat}{e0:MapEntry}(hj:es.toList[j]?=some e0)(hb:w.heap[b]?=some (.map es clock)){val:Value}:
 (Instr.entryStore t (.map (some b)) (.int .i64 (e0.born:Int)) val).run P w= .ok () (setBlock w b (.map (es.modify j fun e=>{e with val:=val}) clock)):=by
 have hs:=(MapKept.stamped_iff es clock).1 hst
 have hjl:j<es.size:=by simpa using(List.getElem?_eq_some_iff.1 hj).1
 have hj':es[j]?=some e0:=by simpa using hj
 have hf:es.findIdx? (fun e=>(e.born:Int) == (e0.born:Int))=some j:=by
  rw[Array.findIdx?_eq_some_iff_getElem]
  have e1:es[j]=e0:=by rw[Array.getElem?_eq_getElem hjl]at hj';exact ar hj'
  refine⟨hjl,by rw[e1];simp,fun i hi=>?_⟩
  have hil:i<es.size:=by omega
  intro hbe
  have hbe:es[i].born=e0.born:=by have:=eq_of_beq hbe;omega
  have hnd:=a7.1 (show List.Pairwise (· ≠ ·) (es.toList.map (·.born)) from hs.2.1) i j (by simpa using hil) (by simpa using hjl) hi
  refine hnd ?_
  simp only[List.getElem_map,Array.getElem_toList]
  rw[hbe,e1]
 simp[Instr.entryStore,MapKept.run_getObj_map hb,hf,MapKept.run_setObj_map _ hb,Result.andThen,setBlock,asInt,asIntOf]
theorem Mf{μ:Type}(f:ν->μ)(l:List (κ×ν))(k:κ):dG eq (l.map fun p=>(p.1,f p.2)) k=(dG eq l k).map f:=by
 unfold dG
 rw[List.find?_map]
 show((List.find? (fun p=>eq k p.1) l).map _).map _=_
 cases List.find? (fun p=>eq k p.1) l<;>rfl
end
end
section
def b7.cat(L:List b7):b7:=
 ⟨bS L,fun b o=>∃ e∈L,b∈e.blocks/\e.NA b o,fun w=>∀ e∈L,e.ok w,
  fun w h b hb=>by
   obtain⟨e,he,hbe⟩:=fv.1 hb
   exact e.lt w (h e he) b hbe,
  fun w w' h hs e he=>e.loc w w' (h e he) fun b hb=>hs b (fv.2 ⟨e,he,hb⟩)⟩
theorem yy(L R:List b7):bS (b7.cat L::R)=bS (L++R):=by rw[gw,eU];rfl
section
variable {B:List Nat}{m0 m:Mem}{L R:List b7}
theorem Ow.MV(h:Ow m (b7.cat L::R)):Ow m (L++R):=
 ⟨by rw[<- yy];exact h.nodup,fun e he=>by
  rcases aL.1 he with he|he
  . exact h.ok (b7.cat L) ay e he
  . exact h.ok e (aE _ he),fun e he b hb o ho=>by
  rcases aL.1 he with he|he
  . exact h.apart (b7.cat L) ay b (fv.2 ⟨e,he,hb⟩) o ⟨e,he,hb,ho⟩
  . exact h.apart e (aE _ he) b hb o ho⟩
theorem Ow.cat(h:Ow m (L++R)):Ow m (b7.cat L::R):=
 ⟨by rw[yy];exact h.nodup,fun e he=>by
  rcases aV.1 he with rfl|he
  . exact fun x hx=>h.ok x (bt _ hx)
  . exact h.ok e (bL _ he),fun e he b hb o ho=>by
  rcases aV.1 he with rfl|he
  . obtain⟨x,hx,hbx,hox⟩:=ho
    exact h.apart x (bt _ hx) b hbx o hox
  . exact h.apart e (bL _ he) b hb o ho⟩
theorem St.MV(h:St B m0 m (b7.cat L::R)):St B m0 m (L++R):=⟨h.le,h.kept,h.news,h.ow.MV,fun b hb=>h.HY b (by rw[yy];exact hb)⟩
theorem St.cat(h:St B m0 m (L++R)):St B m0 m (b7.cat L::R):=⟨h.le,h.kept,h.news,h.ow.cat,fun b hb=>h.HY b (by rw[<- yy];exact hb)⟩
end
end
end Go.Proofs.YtekpafdhgkocaaaGreat
