/- Part of the proof. -/
import Derived.Test.YtekpafdhgkocaaaGreatZPV7
import Derived.RangeFuncNested
import Derived.Scope
namespace Go.Proofs.YtekpafdhgkocaaaGreat
section
open Go.RowKit
namespace D
def writer(ops:Array Oper)(t:Tmp):Option Nat:=(List.range ops.size).find? fun i=>(ops[i]?).bind (·.dst) == some t
inductive WN(ops:Array Oper)(i:Nat):Nat->Prop
 | at_ {j:Nat} {o:Oper} {e:Edge}:ops[j]?=some o->e∈o.after->Region.binds .any e=true->e.on=i->WN ops i j
 | step {j:Nat} {o:Oper} {e:Edge}:ops[j]?=some o->e∈o.after->Region.binds .any e=true->WN ops i e.on->WN ops i j
def Lu(i:Nat):List Oper->Nat->Nat->Nat
 | [],_,acc=>acc
 | o::os,j,acc=>cond (o.after.any fun e=>Region.binds .any e&&(Nat.beq e.on i||acc.testBit e.on)) (Lu i os (j+1) (acc ||| 1 <<< j)) (Lu i os (j+1) acc)
def RH(ops:Array Oper)(i j:Nat):Bool:=(Lu i ops.toList 0 0).testBit j
theorem U1{α:Type}{xs:Array α}{p:α->Bool}(h:xs.any p=true):∃ e,e∈xs/\p e=true:=by
 rw[<- Array.any_toList,br]at h
 obtain⟨e,he,hp⟩:=h
 exact⟨e,by simpa using he,hp⟩
theorem zM{ops:Array Oper}{i:Nat}:∀ (os:List Oper) (j acc:Nat),os=ops.toList.drop j->(∀ k,acc.testBit k=true->WN ops i k)->∀ k,(Lu i os j acc).testBit k=true->WN ops i k
 | [],_,_,_,h,k,hk=>h k hk
 | o::os,j,acc,hd,h,k,hk=>by
   have ho:ops[j]?=some o:=by
    have h1:(o::os)[0]?=(ops.toList.drop j)[0]?:=by rw[hd]
    rw[List.getElem?_drop]at h1
    simpa using h1.symm
   have hd':os=ops.toList.drop (j+1):=by rw[<- List.drop_drop,<- hd];rfl
   unfold Lu at hk
   cases hc:(o.after.any fun e=>Region.binds .any e&&(Nat.beq e.on i||acc.testBit e.on))with
   | false=>rw[hc]at hk;exact zM os (j+1) acc hd' h k hk
   | true=>
     rw[hc]at hk
     refine zM os (j+1) _ hd' (fun q hq=>?_) k hk
     rw[Nat.testBit_or,Bool.or_eq_true]at hq
     rcases hq with hq|hq
     . exact h q hq
     . have:q=j:=by
        simp only[Nat.testBit_shiftLeft,al,au,ge_iff_le,Nat.testBit_one_eq_true_iff_self_eq_zero]at hq
        omega
       subst this
       obtain⟨e,he,hee⟩:=U1 hc
       simp only[al,Bool.or_eq_true,Nat.beq_eq]at hee
       rcases hee.2 with h2|h2
       . exact .at_ ho he hee.1 h2
       . exact .step ho he hee.1 (h _ h2)
theorem DZ{ops:Array Oper}{i j:Nat}(h:RH ops i j=true):WN ops i j:=zM ops.toList 0 0 rfl (fun k hk=>by simp at hk) j h
def UA(ops:Array Oper)(n i:Nat):Bool:=
 match ops[i]? with
 | none=>true
 | some o=>
   (match o.dst with|some d=>writer ops d == some i&&decide (d<n)|none=>true)&&
   (o.after.all fun e=>!Region.binds .any e||decide (e.on<i))&&
   ((o.looksAt ops).all fun t=>match writer ops t with|none=>true|some j=>RH ops j i||RH ops i j||j == i)
def tidy(ops:Array Oper)(n:Nat):Bool:=(List.range ops.size).all (UA ops n)
section
variable {ops:Array Oper}{n:Nat}
theorem Zo{t:Tmp}{j:Nat}(h:writer ops t=some j):∃ o,ops[j]?=some o/\o.dst=some t:=by
 have:=List.find?_some h
 simp only[beq_iff_eq]at this
 cases ho:ops[j]? with
 | none=>simp[ho]at this
 | some o=>exact⟨o,rfl,by simpa[ho]using this⟩
def Ag(l:Array Bool)(i:Nat):Prop:=l.getD i false=true
theorem G5{l:Array Bool}{i:Nat}(hi:i<l.size):l.getD i true=false↔¬ Ag l i:=by
 unfold Ag;simp[hi]
theorem Ib(n i:Nat):¬ Ag (Array.replicate n false) i:=by
 unfold Ag
 by_cases h:i<n<;>simp[h]
def left(ops:Array Oper)(l:Array Bool):Nat:=(List.range ops.size).countP fun i=>l.getD i true == false
theorem Wt{l:Array Bool}{i:Nat}(hi:i<l.size)(k:Nat):Ag (l.setIfInBounds i true) k↔k=i\/Ag l k:=by
 unfold Ag
 by_cases h:i=k
 . subst h;simp[hi]
 . rw[Go.getD_set_ne false h];simp[Ne.symm h]
theorem IJ{p q:Nat->Bool}:∀ (L:List Nat) (i:Nat),i∈L->(∀ x,q x=true->p x=true)->p i=true->q i=false->L.countP q<L.countP p
 | [],i,h,_,_,_=>by cases h
 | x::L,i,h,hpq,hp,hq=>by
   by_cases hx:x=i
   . subst hx
     rw[List.countP_cons_of_pos hp,List.countP_cons_of_neg (by simp[hq])]
     exact Nat.lt_succ_of_le (List.countP_mono_left fun y _ hy=>hpq y hy)
   . have hm:i∈L:=by cases h with|head=>exact absurd rfl hx|tail _ h=>exact h
     have:=IJ L i hm hpq hp hq
     by_cases hqx:q x=true
     . rw[List.countP_cons_of_pos hqx,List.countP_cons_of_pos (hpq x hqx)];omega
     . rw[List.countP_cons_of_neg hqx]
       by_cases hpx:p x=true
       . rw[List.countP_cons_of_pos hpx];omega
       . rw[List.countP_cons_of_neg hpx];omega
theorem L9{l:Array Bool}{i:Nat}(hl:l.size=ops.size)(hi:i<ops.size)(h:¬ Ag l i):left ops (l.setIfInBounds i true)<left ops l:=by
 refine IJ _ i (List.mem_range.2 hi) (fun x hx=>?_) ?_ ?_
 . by_cases e:i=x
   . subst e;simp[hl,hi]at hx
   . rw[Go.getD_set_ne true e]at hx;exact hx
 . simp only[beq_iff_eq];exact(G5 (by omega)).2 h
 . simp[hl,hi]
theorem o9{a:Act}{d:Tmp}{v:Value}(h:d<a.tmps.size):(a.put (some d) v).eval (.tmp d)=v:=by
 simp[Act.eval,Act.put,h]
theorem Bn(h:tidy ops n=true){i:Nat}{o:Oper}(ho:ops[i]?=some o):
 (∀ d,o.dst=some d->writer ops d=some i/\d<n)/\(∀ e∈o.after,Region.binds .any e=true->e.on<i)/\
 (∀ t∈o.looksAt ops,∀ j,writer ops t=some j->RH ops j i=true\/RH ops i j=true\/j=i):=by
 have hi:i<ops.size:=(Array.getElem?_eq_some_iff.1 ho).1
 have h1:=aW.1 h i (List.mem_range.2 hi)
 simp only[UA,ho,al]at h1
 obtain⟨⟨h1,h2⟩,h3⟩:=h1
 refine⟨fun d hd=>?_,fun e he hb=>?_,fun t ht j hj=>?_⟩
 . simp only[hd,al,beq_iff_eq,au]at h1;exact h1
 . have:=Array.all_eq_true_iff_forall_mem.1 h2 e he
   simpa[hb]using this
 . have:=aW.1 h3 t ht
   simp only[hj,Bool.or_eq_true,beq_iff_eq]at this
   rcases this with(h|h)|h
   . exact .inl h
   . exact .inr (.inl h)
   . exact .inr (.inr h)
theorem Se(ht:tidy ops n=true){l:Array Bool}(hl:l.size=ops.size)(hr:Region.ready .any ops l=[]):∀ i,i<ops.size->Ag l i:=by
 intro i
 induction i using Nat.strongRecOn with
 | _ i ih=>
   intro hi
   refine aQ fun hn=>?_
   have ho:ops[i]?=some ops[i]:=by simp[hi]
   have:i∈Region.ready .any ops l:=Go.mem_ready.2 ⟨(G5 (by omega)).2 hn,ops[i],ho,fun e he hb=>ih e.on ((Bn ht ho).2.1 e he hb) (by have:=(Bn ht ho).2.1 e he hb;omega)⟩
   rw[hr]at this;cases this
theorem U0{l:Array Bool}(hc:∀ j o,ops[j]?=some o->Ag l j->∀ e∈o.after,Region.binds .any e=true->Ag l e.on){i j:Nat}(h:WN ops i j):(∀ o,ops[j]?=some o->∀ e∈o.after,Region.binds .any e=true->Ag l e.on)->Ag l i:=by
 induction h with
 | at_ ho he hb h=>intro hall;exact h▸hall _ ho _ he hb
 | step ho he hb _ ih=>intro hall;exact ih fun o' ho'=>hc _ o' ho' (hall _ ho _ he hb)
theorem Gs{l:Array Bool}(hc:∀ j o,ops[j]?=some o->Ag l j->∀ e∈o.after,Region.binds .any e=true->Ag l e.on)(i j:Nat)(o:Oper)(ho:ops[j]?=some o)
 (hall:∀ e∈o.after,Region.binds .any e=true->Ag l e.on) (h:RH ops i j=true):Ag l i:=
 U0 hc (DZ h) fun o' ho'=>by rw[ho]at ho';cases ho';exact hall
end
abbrev Rs:=List (Value->World->Prop)
def at_(rs:Rs)(i:Nat):Value->World->Prop:=if i<rs.length then rs.getD (rs.length-1-i) (fun _ _=>True)else fun _ _=>True
end D
end
section
open Go.RowKit G
section
variable {P:Program}{Q:Exit->Act->World->Prop}{rr:Option Nat}{n:Nat}{a:Act}{K:Kt}{ds:List Deferred}{w:World}
theorem UF{x:Code}(J:Act->World->Prop)(hj:∀ a w,J a w->Q .normal a w)(h:x.wpIn (FW rr) 0 P (Exit.then J Q) a w):x.wpIn (FW rr) 0 P Q a w:=
 wpIn_mono h fun e a' w' hq=>by cases e<;>first|exact hj _ _ hq|exact hq
theorem WH{σ A:Type}{f:σ->Option (σ⊕A)}{s0:σ}{r:A}{c:Code}(h:Iter f s0=some r)(I:σ->Act->World->Prop)(h0:I s0 a w)
 (round:∀ k s x a w,I s a w->f s=some x->Lg f k r x->c.wpIn (FW rr) 0 P (Exit.then (fun a' w'=>∃ k',k'<k/\∃ s',vE f k' s' r/\I s' a' w') Q) a w):(Code.loop c).wpIn (FW rr) 0 P Q a w:=by
 obtain⟨k,hk⟩:=rf.1 h
 refine UG (fun k a w=>∃ s,vE f k s r/\I s a w) ⟨k,s0,hk,h0⟩ ?_
 rintro k a w ⟨s,hl,hI⟩
 cases k with
 | zero=>exact hl.elim
 | succ k=>
   obtain⟨x,hx,hl⟩:=hl
   refine round (k+1) s x a w hI hx ?_
   cases x with
   | inl s'=>exact⟨k,Nat.lt_succ_self k,hl⟩
   | inr a=>exact hl
theorem VL{σ A:Type}{f:σ->Option (σ⊕A)}{k:Nat}{r:A}{s':σ}{I:σ->Act->World->Prop}(h:Lg f k r (.inl s'))(hI:I s' a w):∃ k',k'<k/\∃ s',vE f k' s' r/\I s' a w:=by
 obtain⟨k',h1,h2⟩:=h;exact⟨k',h1,s',h2,hI⟩
end
section
variable {P:Program}{o:Oper}{n:Nat}{a:Act}{K:Kt}{ds:List Deferred}{B:List Nat}{m0 m:Mem}{L:List b7}{cF:Value->World->Prop}{x y z:Operand}{t e:TypeId}{α:Type}{R:Mem->α->List Value->Prop}{sz:Nat}{zv:Value}{bytes cap:Nat}{ad:Option Addr}{l l':List α}
theorem Z3{k:IntKind}{i:Int}{u:α}(hT:gv P t e zv sz bytes)(hE:gB R m sz ad cap l)(hx:idx l i=some u)(hK:Ke a K)(ho:o.op= .indexAddr t x y)(hxx:nt K x=some (.slice ad l.length cap))(hy:nt K y=some (.int k i))
 (hp:∀ b p cs,R m u cs->At m b p cs->cF (.pointer (some ⟨b,p,none⟩)) m.w):bQ P o a m.w cF:=by
 obtain⟨j,hij,hj⟩:=Ae hx
 have hjl:j<l.length:=(List.getElem?_eq_some_iff.1 hj).1
 have hu:l[j]=u:=(List.getElem?_eq_some_iff.1 hj).2
 haveI:Inhabited α:=⟨u⟩
 refine Wr hT hE j hK ho hxx hy hij hjl fun b p cs hR hA=>hp b p cs ?_ hA
 rw[getElem!_pos l j hjl,hu]at hR;exact hR
theorem Ri{k:IntKind}{i:Int}(hT:gv P t e zv sz bytes)(hE:gB R m sz ad cap l)(hx:rM l i=some l')(hK:Ke a K)(ho:o.op= .slice t x (some y) none none)(hxx:nt K x=some (.slice ad l.length cap))(hy:nt K y=some (.int k i))
 (hp:∀ a' c',gB R m sz a' c' l'->cF (.slice a' l'.length c') m.w):bQ P o a m.w cF:=by
 obtain⟨j,hij,hj,rfl⟩:=Dz hx
 exact Fh hT hE j hij hK ho hxx hy hj (hp _ _ (hE.from j hj))
theorem Ws{k:IntKind}{i:Int}(hT:gv P t e zv sz bytes)(hE:gB R m sz ad cap l)(hx:uS l i=some l')(hK:Ke a K)(ho:o.op= .slice t x none (some y) none)(hxx:nt K x=some (.slice ad l.length cap))(hy:nt K y=some (.int k i))
 (hp:∀ a' c',gB R m sz a' c' l'->cF (.slice a' l'.length c') m.w):bQ P o a m.w cF:=by
 obtain⟨j,hij,hj,rfl⟩:=Cr hx
 exact Rn hT hE j hij hK ho hxx hy hj (hp _ _ (hE.upto j hj))
theorem Uh{k k':IntKind}{i i':Int}(hT:gv P t e zv sz bytes)(hE:gB R m sz ad cap l)(hx:wg l i i'=some l')(hK:Ke a K)(ho:o.op= .slice t x (some y) (some z) none)(hxx:nt K x=some (.slice ad l.length cap))(hy:nt K y=some (.int k i))(hz:nt K z=some (.int k' i'))
 (hp:∀ a' c',gB R m sz a' c' l'->cF (.slice a' l'.length c') m.w):bQ P o a m.w cF:=by
 obtain⟨p,q,hip,hiq,hpq,hq,rfl⟩:=MN hx
 exact Oi hT hE p q hip hiq hK ho hxx hy hz ⟨hpq,hq⟩ (hp _ _ (hE.cut p q hpq hq))
theorem Z0{g:Option Nat}{cap2:Nat}{l2:List α}{a2:Option Addr}(hT:gv P t e zv sz bytes)(hR:wM R sz)(hx:app bytes l l2=some l')(hK:Ke a K)(k:Nat)(hS:St B m0 m L)(hk:L[k]?=some (rowOf e sz g cap l))(hE:gB R m sz (mc g) cap l)(hE2:gB R m sz a2 cap2 l2)
 (ho:o.op= .call ⟨.builtin .append,#[x,y],#[t,t]⟩) (hxx:nt K x=some (.slice (mc g) l.length cap)) (hy:nt K y=some (.slice a2 l2.length cap2)) (hb:decide (1<=bytes)=true)
 (hp:∀ m' g' cap',Le m m'->St B m0 m' (rowOf e sz g' cap' l'::L.eraseIdx k)->gB R m' sz (mc g') cap' l'->cF (.slice (mc g') l'.length cap') m'.w):bQ P o a m.w cF:=by
 obtain⟨h1,rfl⟩:=xA hx
 have h2:l.length+l2.length<=(l.length+l2.length)*bytes:=Nat.le_mul_of_pos_right _ (aG hb)
 exact Uf hT hR hK k hS hk hE hE2 ho hxx hy h1 hp (by unfold maxLen;omega)
theorem F5(hR:wM R sz)(hS:St B m0 m L){l2:List α}{css dss:List (List Value)}(h2:css.length=l.length)(h4:∀ (i:Nat) (x:α) (cs:List Value),l[i]?=some x->css[i]?=some cs->cs.length=sz/\R m x cs)
 (k2:dss.length=l2.length) (k4:∀ (i:Nat) (x:α) (cs:List Value),l2[i]?=some x->dss[i]?=some cs->cs.length=sz/\R m x cs) (hxl:css.flatten.length=l.length*sz) (hyl:dss.flatten.length=l2.length*sz)
 {cap':Nat} {cur:Array Value} (hcs:cur.size=cap'*sz) (hge:l.length+l2.length<=cap') (hcm:cap'<=maxLen) (htake:cur.toList.take ((l.length+l2.length)*sz)=css.flatten++dss.flatten):
 ∃ m':Mem,m'.w=m.w.drew.alloc (.cells cur e (0,0))/\Le m m'/\St B m0 m' (rowOf e sz (some m.w.heap.size) cap' (l++l2)::L)/\gB R m' sz (mc (some m.w.heap.size)) cap' (l++l2):=by
 obtain⟨f2,f4⟩:=Cj h2 h4 k2 k4
 have hll:(l++l2).length=l.length+l2.length:=by simp
 have hg:Below m.w.heap.size m.w (m.w.drew.alloc (.cells cur e (0,0))):=((Below.refl _ _).drew).alloc (Nat.le_refl _) _
 have hb':(m.w.drew.alloc (.cells cur e (0,0))).heap[m.w.heap.size]?=some (.cells cur e (0,0)):=heap_alloc_new m.w.drew _
 let X:Nat->Nat->Prop:=fun c o=>c=m.w.heap.size/\o<(l++l2).length*sz
 have hle:Le m ⟨m.w.drew.alloc (.cells cur e (0,0)),fun c o=>m.ok c o\/X c o⟩:=
  ⟨rfl,rfl,rfl,Below.size hg,fun c o hc=>⟨⟨.inl hc,Nat.lt_of_lt_of_le hc.2 (Below.size hg)⟩,A5 hg hc.2⟩⟩
 have k:St [] m ⟨m.w.drew.alloc (.cells cur e (0,0)),fun c o=>m.ok c o\/X c o⟩ [rowOf e sz (some m.w.heap.size) cap' (l++l2)]:=by
  refine⟨hle,fun c hc _=>Below.block hg c hc,fun c o hc=>?_,⟨by simp[rowOf,b7.row],fun x hx=>?_,fun x hx c hc o ho hm=>?_⟩,fun c hc=>?_⟩
  . rcases hc.1 with h|h
    . exact .inl h
    . exact .inr (.inl (by rw[h.1];exact Nat.le_refl _))
  . simp at hx;subst hx
    intro c hc;cases hc
    exact⟨cur,hb',hcs⟩
  . simp at hx;subst hx
    simp[rowOf,b7.row]at hc;subst hc
    have ho':(l++l2).length*sz<=o:=ho
    rcases hm.1 with h|h
    . exact absurd h.2 (by simp)
    . have h2:o<(l++l2).length*sz:=h.2
      omega
  . simp[rowOf,b7.row]at hc;subst hc;exact .inr (Nat.le_refl _)
 have hE':gB R ⟨m.w.drew.alloc (.cells cur e (0,0)),fun c o=>m.ok c o\/X c o⟩ sz (mc (some m.w.heap.size)) cap' (l++l2):=by
  refine⟨css++dss,⟨?_,by simpa using hge,hcm,(fun h=>by cases h),fun j v hv=>⟨m.w.heap.size,0,rfl,⟨.inr ⟨rfl,?_⟩,by simp⟩,?_⟩⟩,f2,fun i x cs hx hc=>⟨(f4 i x cs hx hc).1,hR.mono (f4 i x cs hx hc).2 hle⟩⟩
  . simp only[bp,aq,hxl,hyl,aZ]
  . have:j<(css++dss).flatten.length:=(List.getElem?_eq_some_iff.1 hv).1
    simp only[bp,aq,hxl,hyl]at this
    rw[hll,aZ];omega
  . have hjl:j<(css++dss).flatten.length:=(List.getElem?_eq_some_iff.1 hv).1
    simp only[bp,aq,hxl,hyl]at hjl
    rw[cell_of_row _ _ _ _ _ _ hb',aX,<- Array.getElem?_toList]
    have e1:(cur.toList.take ((l.length+l2.length)*sz))[j]?=(css.flatten++dss.flatten)[j]?:=by rw[htake]
    rw[List.getElem?_take,if_pos (by rw[aZ];omega)]at e1
    rw[e1,<- bp];exact hv
 exact⟨_,rfl,hle,hS.call k,hE'⟩
theorem Jv{cap2:Nat}{l2:List α}{a2:Option Addr}(hT:gv P t e zv sz bytes)(hR:wM R sz)(hx:app bytes l l2=some l')(hK:Ke a K)(hS:St B m0 m L)(hE:gB R m sz ad cap l)(hE2:RP R m sz a2 cap2 l2)
 (ho:o.op= .call ⟨.builtin .append,#[x,y],#[t,t]⟩) (hxx:nt K x=some (.slice ad l.length cap)) (hy:nt K y=some (.slice a2 l2.length cap2)) (hb:decide (1<=bytes)=true) (hfull:cap<l.length+l2.length)
 (hp:∀ m' g' cap',Le m m'->St B m0 m' (rowOf e sz g' cap' l'::L)->gB R m' sz (mc g') cap' l'->cF (.slice (mc g') l'.length cap') m'.w):bQ P o a m.w cF:=by
 obtain⟨hlen,rfl⟩:=xA hx
 have h2:l.length+l2.length<=(l.length+l2.length)*bytes:=Nat.le_mul_of_pos_right _ (aG hb)
 have h63:l.length+l2.length<=maxLen:=by unfold maxLen;omega
 obtain⟨css,h1,h2,h4⟩:=hE
 obtain⟨dss,k1,k2,k4⟩:=hE2
 have hone:=Ee hR k2 k4
 have hll:(l++l2).length=l.length+l2.length:=by simp
 obtain⟨cap',cur,hrun,hcs,hge,hcm,htake⟩:=Av (P:=P) (ty:=o.type) hT ad l.length cap _ h1 a2 l2.length cap2 _ k1 hone hlen h63 hfull
 obtain⟨m',r1,r2,r3,r4⟩:=F5 (e:=e) hR hS h2 h4 k2 k4 h1.1 k1.1 hcs hge hcm htake
 unfold bQ execOp
 simp only[ho,resolve,invoke,builtin,Sem.run_bind,Sem.run_pure,Result.andThen_ok,bq,aP,bG,hK.ev hxx,hK.ev hy,hrun]
 have:=hp m' (some m.w.heap.size) cap' r2 r3 r4
 rw[hll,r1]at this
 exact this
theorem Ue{cap2:Nat}{l2:List α}{a2:Option Addr}(hT:gv P t e zv sz bytes)(hR:wM R sz)(hx:app bytes l l2=some l')(hK:Ke a K)(hS:St B m0 m L)(hE:gB R m sz ad cap l)(hE2:gB R m sz a2 cap2 l2)
 (ho:o.op= .call ⟨.builtin .append,#[x,y],#[t,t]⟩) (hxx:nt K x=some (.slice ad l.length cap)) (hy:nt K y=some (.slice a2 l2.length cap2)) (hb:decide (1<=bytes)=true) (hfull:cap<l.length+l2.length)
 (hp:∀ m' g' cap',Le m m'->St B m0 m' (rowOf e sz g' cap' l'::L)->gB R m' sz (mc g') cap' l'->cF (.slice (mc g') l'.length cap') m'.w):bQ P o a m.w cF:=
 Jv hT hR hx hK hS hE hE2.src ho hxx hy hb hfull hp
theorem HF{b T size nn i c o0:Nat}(hK:Ke a K)(hS:St B m0 m (.row (some b) T size nn::L))(ho:o.op= .convert t t x)(hx:nt K x=some (.slice (some ⟨b,o0,none⟩) i c))(hu:P.underlying t=some (.slice e))(he:P.underlying e=some (.int .u8))
 (hp:∀ m',Le m m'->St B m0 m' L->cF (.slice (some ⟨b,o0,none⟩) i c) m'.w):bQ P o a m.w cF:=by
 have hbn:b ∉ bS L:=by
  have:=hS.ow.nodup;rw[gw]at this
  simp[b7.row]at this;exact this.1
 have hbB:=hS.HY b (by rw[gw];simp[b7.row])
 have hS':=hS.drop
 have key:∀ w':World,w'.os=m.w.os->w'.tape=m.w.tape->w'.output=m.w.output->w'.heap.size=m.w.heap.size->(∀ q,w'.cell? q=m.w.cell? q)->(∀ k,k≠b->w'.heap[k]?=m.w.heap[k]?)->cF (.slice (some ⟨b,o0,none⟩) i c) w':=by
  intro w' h1 h2 h3 h4 h5 h6
  have hle:Le m ⟨w',m.ok⟩:=⟨h1,h2,h3,Nat.le_of_eq h4.symm,fun b' o' hb'=>⟨⟨hb',by simpa[h4]using hb'.2⟩,h5 _⟩⟩
  refine hp ⟨w',m.ok⟩ hle ⟨hS'.le.trans hle,fun b' hb' hB=>(h6 b' (fun e=>by subst e;rcases hbB with h|h;exact hB h;omega)).trans (hS'.kept b' hb' hB),fun b' o' ho'=>hS'.news b' o' ho'.1,⟨hS'.ow.nodup,fun e' he'=>e'.loc _ _ (hS'.ow.ok e' he') fun b' hb'=>h6 b' (fun e=>hbn (fv.2 ⟨e',he',e▸hb'⟩)),fun e' he' b' hb' o' hf hm=>hS'.ow.apart e' he' b' hb' o' hf hm.1⟩,hS'.HY⟩
 have hrun:∃ w',(convert t t (.slice (some ⟨b,o0,none⟩) i c)).run P m.w= .ok (.slice (some ⟨b,o0,none⟩) i c) w'/\cF (.slice (some ⟨b,o0,none⟩) i c) w':=by
  show ∃ w',(convert t t (.slice (some ⟨b,o0,none⟩) i c)).run P m.w= .ok (.slice (some ⟨b,o0,none⟩) i c) w'/\cF (.slice (some ⟨b,o0,none⟩) i c) w'
  simp only[convert,Sem.run_bind,run_underlying hu,run_underlying he,Result.andThen_ok,beq_self_eq_true,markStringish,Go.shape,Sem.run]
  cases hsh:m.w.shape? b with
  | none=>exact⟨m.w,rfl,key _ rfl rfl rfl rfl (fun _=>rfl) (fun _ _=>rfl)⟩
  | some p=>
    have hz:∀ (w:World) (p:Addr) (n:Nat),(w.freeze p n).os=w.os/\(w.freeze p n).tape=w.tape/\(w.freeze p n).output=w.output:=fun w p n=>by unfold World.freeze;split<;>exact⟨rfl,rfl,rfl⟩
    exact⟨m.w.freeze ⟨b,p.2,none⟩ 1,rfl,key _ (hz _ _ _).1 (hz _ _ _).2.1 (hz _ _ _).2.2 (LQ _ _ _) (fun q=>LP _ _ _ _) (fun k hk=>Ki _ _ _ _ hk)⟩
 obtain⟨w',h1,h2⟩:=hrun
 unfold bQ execOp
 simp only[ho,hK.ev hx,Sem.run_bind,h1,Result.andThen_ok,Sem.run_pure]
 exact h2
theorem MI{b p n:Nat}{k:IntKind}{i:Int}(hT:P.underlying t=some (.array n e))(hs:(P.info? e).map (·.size)=some 1)(hi:0<=i/\i<(n:Int))(hK:Ke a K)(ho:o.op= .indexAddr t x y)(hx:nt K x=some (.pointer (some ⟨b,p,none⟩)))(hy:nt K y=some (.int k i))
 (hp:cF (.pointer (some ⟨b,i.toNat+p,none⟩)) m.w):bQ P o a m.w cF:=by
 have hsz:(sizeOf e).run P m.w= .ok 1 m.w:=by
  cases hi:P.info? e with
  | none=>simp[hi]at hs
  | some inf=>simp[hi]at hs;simp[sizeOf,typeInfo,hi,hs]
 unfold bQ execOp
 simp only[ho,hK.ev hx,hK.ev hy,Instr.indexAt,asIntOf,Instr.sureAddr,Sem.run_bind,Sem.run_pure,Result.andThen_ok,run_underlying hT,hsz,hi,and_self,if_true,Nat.mul_one,Addr.add_mid]
 rw[Nat.add_comm];exact hp
theorem PH{op:BinOp}{k:IntKind}{i j:Int}{ρ:Operand->Value}{ty ty':TypeId}{v:Value}{w:World}(hj:¬ j=0)(ho:o.op= .binOp op ty x y ty')(hx:ρ x= .int k i)(hy:ρ y= .int k j)(hv:op= .quo/\v= .int k (k.wrap (i.tdiv j))\/op= .rem/\v= .int k (i.tmod j)):(execOp ρ o).run P w= .ok (.value v) w:=by
 rcases hv with⟨rfl,rfl⟩|⟨rfl,rfl⟩<;>simp[execOp,ho,hx,hy,binOp,Op.intDiv,hj,eqGuard]
end
theorem Wn{P:Program}{o:Oper}{x y:Operand}{k k':IntKind}{i j:Int}{ρ:Operand->Value}{ty ty':TypeId}{w:World}(hj:0<=j)(ho:o.op= .binOp .shl ty x y ty')(hx:ρ x= .int k i)(hy:ρ y= .int k' j):(execOp ρ o).run P w= .ok (.value (.int k (BD k i j))) w:=by
 have h:¬ j<0:=by omega
 simp[execOp,ho,hx,hy,binOp,Op.shift,h,eqGuard,BD]
theorem Wo{P:Program}{o:Oper}{x y:Operand}{k k':IntKind}{i j:Int}{ρ:Operand->Value}{ty ty':TypeId}{w:World}(hj:0<=j)(ho:o.op= .binOp .shr ty x y ty')(hx:ρ x= .int k i)(hy:ρ y= .int k' j):(execOp ρ o).run P w= .ok (.value (.int k (lx k i j))) w:=by
 have h:¬ j<0:=by omega
 simp[execOp,ho,hx,hy,binOp,Op.shift,h,eqGuard,lx]
theorem WV{k:IntKind}(hk:(k == .i8)=false)(c:UInt8):k.wrap (c.toNat:Int)=(c.toNat:Int):=by
 have:=c.toNat_lt
 cases k<;>simp[IntKind.wrap,IntKind.bits,IntKind.signed]at hk ⊢ <;>omega
theorem Xl(c:UInt8):IntKind.u8.wrap (c.toNat:Int)=(c.toNat:Int):=WV rfl c
theorem Ou{y:Int}(h:∃ x,y=IntKind.u8.wrap x):y=((u8 y).toNat:Int):=by
 obtain⟨x,rfl⟩:=h;rw[ym,wu8];omega
theorem Vu(c j:Nat):((c:Int).fdiv (2 ^ j))=((c/2 ^ j:Nat):Int):=by
 rw[Int.fdiv_eq_ediv_of_nonneg _ (Int.le_of_lt (Int.pow_pos (by decide)))];simp
theorem Ze(c:UInt8)(y:Int):lx .u8 (c.toNat:Int) y=((u8 (lx .u8 (c.toNat:Int) y)).toNat:Int):=by
 have hc:=c.toNat_lt
 have h:lx .u8 (c.toNat:Int) y=((c.toNat/2 ^ (min y.toNat 8):Nat):Int):=by unfold lx;exact Vu _ _
 have h2:c.toNat/2 ^ (min y.toNat 8)<=c.toNat:=Nat.div_le_self _ _
 rw[h,ym];generalize c.toNat/2 ^ (min y.toNat 8)=q at *; omega
theorem Oe{P:Program}{t e:TypeId}{w:World}(hu:P.underlying t=some (.array 32 e))(he:P.underlying e=some (.int .u8))(hs:r9 P e=some (false,1))(f g:Nat->UInt8):(binOp .neq t (.agg (vQ f)) (.agg (vQ g))).run P w= .ok (.bool (!Aa f g)) w:=by
 have h:=HD (w:=w) hu he hs f g
 have h2:∀ xs ys:Array Value,(binOp .eql t (.agg xs) (.agg ys)).run P w= .ok (.bool (Aa f g)) w->(binOp .neq t (.agg xs) (.agg ys)).run P w= .ok (.bool (!Aa f g)) w:=by
  intro xs ys h
  simp only[binOp,Sem.run_bind]at h ⊢
  cases hr:(Op.equal t (.agg xs) (.agg ys)).run P w with
  | ok b w'=>rw[hr]at h;simp[Sem.run_pure,Result.andThen_ok]at h ⊢; obtain⟨h1,h2⟩:=h;subst h1;exact⟨rfl,h2⟩
  | halt x w'=>rw[hr]at h;simp[Result.andThen]at h
 exact h2 _ _ h
section
variable {P:Program}{ops:Array Oper}{o:Oper}{n:Nat}{a:Act}{K:Kt}{ds:List Deferred}{w:World}{rest:List Oper}{Q:Exit->Act->World->Prop}{rr:Option Nat}
theorem qs(d:Nat)(hK:Kn n a K ds)(h:∀ a',Kn n a' ((d,undef)::K) ds->wpListIn (FW rr) 0 P ops Q rest a' w)(hc:NX ops o K n d=true:=by kernel_rfl):wpListIn (FW rr) 0 P ops Q (o::rest) a w:=Ye d hK hc h
end
def isNum(k:IntKind)(_:Mem)(x:Int)(cs:List Value):Prop:=cs=[.int k x]
theorem Px(k:IntKind):wM (isNum k) 1:=⟨fun h _=>h,fun h=>by rw[h];rfl,fun h u hu=>by rw[h]at hu;simp at hu;subst hu;rfl,by decide⟩
def ZJ(_:Mem)(x:Bool)(cs:List Value):Prop:=cs=[.bool x]
theorem TY:wM ZJ 1:=⟨fun h _=>h,fun h=>by rw[h];rfl,fun h u hu=>by rw[h]at hu;simp at hu;subst hu;rfl,by decide⟩
abbrev str(l:List UInt8):ByteArray:=⟨l.toArray⟩
def isStr(_:Mem)(x:List UInt8)(cs:List Value):Prop:=cs=[.string (str x)]
theorem Pz:wM isStr 1:=⟨fun h _=>h,fun h=>by rw[h];rfl,fun h u hu=>by rw[h]at hu;simp at hu;subst hu;rfl,by decide⟩
def NJ{α:Type}(R:Mem->α->List Value->Prop)(sz:Nat)(m:Mem)(x:List α)(cs:List Value):Prop:=∃ a c,cs=[.slice a x.length c]/\gB R m sz a c x
theorem Oa{α:Type}{R:Mem->α->List Value->Prop}{sz:Nat}(h:wM R sz):wM (NJ R sz) 1:=
 ⟨fun⟨a,c,h1,h2⟩ l=>⟨a,c,h1,gB.mono h h2 l⟩,fun⟨a,c,h1,_⟩=>by rw[h1];rfl,fun⟨a,c,h1,_⟩ u hu=>by rw[h1]at hu;simp at hu;subst hu;rfl,by decide⟩
end
section
open IntKind(i64)
open Go.RowKit G
section
variable {α:Type}
def DR(enc:α->Value)(l:List α):Array Value:=(l.map enc).toArray
theorem JF(enc:α->Value)(l:List α):(DR enc l).size=l.length:=by simp[DR]
end
section
variable {P:Program}{o:Oper}{a:Act}{K:List (Nat×Value)}{B:List Nat}{m0 m:Mem}{L:List b7}{cF:Value->World->Prop}{t e:TypeId}{x y:Operand}{α:Type}
theorem Rg(enc:α->Value)(z:α){bytes n:Nat}{k k':IntKind}{i:Int}(hT:gv P t e (enc z) 1 bytes)(hz:(enc z).oneCell'=true)(hK:Ke a K)(hS:St B m0 m L)(ho:o.op= .makeSlice t x y)(hx:nt K x=some (.int k i))(hy:nt K y=some (.int k' i))
 (hi:i=(n:Int)) (hn:n*bytes<=140737488355328) (hb:0<bytes)
 (hp:∀ m' b,m.w.heap.size<=b->Le m m'->St B m0 m' (.box b (DR enc (List.replicate n z)) e::L)->cF (.slice (some ⟨b,0,none⟩) n n) m'.w):bQ P o a m.w cF:=by
 subst hi
 have hn':n<=140737488355328:=Nat.le_trans (Nat.le_mul_of_pos_right n hb) hn
 obtain⟨inf,hinf,hzr,hsz,hby⟩:=info_parts hT.info
 have hw:i64.wrap (n:Int)=(n:Int):=fB (by omega) (by omega)
 have hnb:¬ ((bytes:Int)*(n:Int)>2 ^ 48):=by
  have:((n*bytes:Nat):Int)<=140737488355328:=by omega
  rw[Int.natCast_mul,Int.mul_comm]at this
  omega
 have hrow:((Array.range n).map fun i=>(enc z).cells[i % (enc z).cells.size]!)=DR enc (List.replicate n z):=by
  have hc:(enc z).cells= #[enc z]:=by cases hv:enc z<;>rw[hv]at hz<;>first|rfl|cases hz
  rw[hc]
  apply Array.ext
  . simp[DR]
  . intro i hi hi'
    simp[DR,Nat.mod_one]
 have hz0:∀ w:World,(zeroValue e).run P w= .ok (enc z) w:=fun w=>by simp[zeroValue,typeInfo,hinf,hzr]
 have h1:¬ ((n:Int)<0):=by omega
 have h2:¬ ((281474976710656:Int)<(bytes:Int)*(n:Int)):=by omega
 unfold bQ execOp
 simp only[ho,hK.ev hx,hK.ev hy,Instr.makeSlice,asInt,asIntOf,Sem.run_bind,Sem.run_pure,Result.andThen_ok,run_underlying hT.sG]
 simp[typeInfo,sizeOf,newRow,newObj,hinf,hby,hw,hsz,h1,h2,decide_false,Bool.or_false,Bool.false_or,aJ,if_false,Int.lt_irrefl,aK,Nat.mul_one,gt_iff_lt]
 by_cases h0:n=0
 . subst h0
   simp[Sem.run]
   have h:=hS.Ak (DR enc (List.replicate 0 z)) e
   rw[show(Array.map (fun(_:Nat)=>(default:Value)) (Array.range 0))=DR enc (List.replicate 0 z)by simp[DR]]
   exact hp _ _ (Nat.le_refl _) (St.new (St.refl (Ow.nil m)) rfl (.box m.w.heap.size (DR enc (List.replicate 0 z)) e) rfl (jq _ _)).le h
 . simp[h0,hz0,hrow,Sem.run]
   have h:=hS.Ak (DR enc (List.replicate n z)) e
   exact hp _ _ (Nat.le_refl _) (St.new (St.refl (Ow.nil m)) rfl (.box m.w.heap.size (DR enc (List.replicate n z)) e) rfl (jq _ _)).le h
end
end
section
open Go.RowKit
def Nu(Ds:List Nat):List Deferred:=Ds.map fun D=>{target:= .collected D,args:= #[]}
def b7.defs(Ds:List Nat):b7:=
 ⟨Ds,fun _ _=>True,fun w=>∀ D∈Ds,w.heap[D]?=some (.deferred (some [])),fun _ h b hb=>ud (h b hb),fun w w' h hs D hD=>by rw[hs D hD];exact h D hD⟩
section
variable {B:List Nat}{m0 m:Mem}{L R:List b7}{e e' e1 e2:b7}
theorem St.turn(h:St B m0 m (e::R)){w':World}(ho:w'.os=m.w.os)(ht:w'.tape=m.w.tape)(hu:w'.output=m.w.output)(hsz:w'.heap.size=m.w.heap.size)
 (hk:∀ c,c ∉ e.blocks->w'.heap[c]?=m.w.heap[c]?) (hall:∀ b∈e.blocks,∀ o,e.NA b o) (hb:∀ b∈e'.blocks,b∈e.blocks) (hn:e'.blocks.Nodup) (hok:e'.ok w'):St B m0 ⟨w',m.ok⟩ (e'::R):=by
 have hap:∀ b∈e.blocks,∀ o,¬ m.ok b o:=fun b hb o=>h.ow.apart e (by simp) b hb o (hall b hb o)
 have k:St (bS [e]) m ⟨w',m.ok⟩ [e']:=by
  refine⟨⟨ho,ht,hu,by rw[hsz];exact Nat.le_refl _,fun c o hc=>⟨⟨hc,by simpa[hsz]using hc.2⟩,?_⟩⟩,fun c hc hn=>hk c (by simpa using hn),fun c o hc=> .inl hc.1,⟨by simpa using hn,fun x hx=>?_,fun x hx c hc o _ hm=>?_⟩,fun c hc=>?_⟩
  . have hne:c ∉ e.blocks:=fun hm=>hap c hm o hc
    show w'.cell? _=m.w.cell? _
    unfold World.cell?
    rw[hk c hne]
  . simp at hx;subst hx;exact hok
  . simp at hx;subst hx;exact hap c (hb c hc) o hm.1
  . simp at hc;exact .inl (by simpa using hb c hc)
 exact St.frame (L:=[e]) h k
theorem St.two(h:St B m0 m (e1::e2::R))(hb:e.blocks=e1.blocks++e2.blocks)(hok:e1.ok m.w->e2.ok m.w->e.ok m.w)(h1:∀ b∈e1.blocks,∀ o,e1.NA b o)(h2:∀ b∈e2.blocks,∀ o,e2.NA b o):St B m0 m (e::R):=by
 have hbl:bS (e::R)=bS (e1::e2::R):=by simp[hb]
 refine⟨h.le,h.kept,h.news,⟨by rw[hbl];exact h.ow.nodup,fun x hx=>?_,fun x hx b hbx o hf=>?_⟩,fun b hbx=>h.HY b (by rw[<- hbl];exact hbx)⟩
 . simp at hx
   rcases hx with rfl|hx
   . exact hok (h.ow.ok e1 (by simp)) (h.ow.ok e2 (by simp))
   . exact h.ow.ok x (by simp[hx])
 . simp at hx
   rcases hx with rfl|hx
   . rw[hb]at hbx
     rcases aL.1 hbx with h3|h3
     . exact h.ow.apart e1 (by simp) b h3 o (h1 b h3 o)
     . exact h.ow.apart e2 (by simp) b h3 o (h2 b h3 o)
   . exact h.ow.apart x (by simp[hx]) b hbx o hf
theorem St.WW(h:St B m0 m L):St B m0 m (.defs []::L):=by
 have k:St [] m m [.defs []]:=⟨Le.refl m,fun _ _ _=>rfl,fun _ _ h=> .inl h,⟨by simp[b7.defs],fun x hx=>by simp at hx;subst hx;exact fun D hD=>by simp at hD,fun x hx b hb=>by simp at hx;subst hx;simp[b7.defs]at hb⟩,fun b hb=>by simp[b7.defs]at hb⟩
 exact h.call k
theorem St.newObj(h:St B m0 m L)(o:Obj):St B m0 ⟨m.w.alloc o,m.ok⟩ (.obj m.w.heap.size o::L):=h.new rfl (.obj m.w.heap.size o) rfl (jq _ _)
theorem Le.alloc(m:Mem)(o:Obj):Le m ⟨m.w.alloc o,m.ok⟩:=(St.refl (Ow.nil m)).newObj o |>.le
theorem St.putObj{b:Nat}{o:Obj}(o':Obj)(h:St B m0 m L)(k:Nat)(hk:L[k]?=some (.obj b o)):Le m ⟨m.w.putObj b o',m.ok⟩/\St B m0 ⟨m.w.putObj b o',m.ok⟩ (.obj b o'::L.eraseIdx k):=by
 have hb:=h.Ml k hk
 have h1:=h.front k hk
 have ho:(m.w.putObj b o').heap[b]?=some o':=World.putObj_heap_same (ud hb)
 have key:∀ {B':List Nat} {m1:Mem},St B' m1 m (.obj b o::L.eraseIdx k)->St B' m1 ⟨m.w.putObj b o',m.ok⟩ (.obj b o'::L.eraseIdx k):=fun hh=>
  hh.turn rfl rfl rfl (by simp) (fun c hc=>World.putObj_heap_other (by intro e;subst e;exact hc (by simp[b7.obj]))) (fun _ _ _=>trivial) (fun c hc=>hc) (by simp[b7.obj]) ho
 refine⟨?_,key h1⟩
 have:=key (St.refl h1.ow)
 exact this.le
end
structure Iv(R:LoopState->Option Code->Loop)(ps:Array Tmp)(tmps:Array Value)(vw body:Code):Prop where
 ex:∃ fn D,R=fun st pe=>{state:=st,pending:=pe,fn:=fn,tmps:=tmps,params:=ps,assign:=vw,body:=body,defers:=D}
section
variable {P:Program}{Q:Exit->Act->World->Prop}{n n0:Nat}{a:Act}{K K0:Kt}{B:List Nat}{m0 m:Mem}{L:List b7}{ds:List Deferred}
theorem Wg{R:LoopState->Option Code->Loop}{ps:Array Tmp}{tmps:Array Value}{vw body:Code}{l k:Nat}{X:World->Prop}(hR:Iv R ps tmps vw body)(hS:St B m0 m L)(hk:L[k]?=some (.obj l (.loop (R .ready none))))
 (h:∀ m1,Le m m1->St B m0 m1 (.obj l (.loop (R .busy none))::L.eraseIdx k)->X m1.w):∃ w3,(Instr.beginRound l).run P m.w= .ok () w3/\X w3:=by
 obtain⟨fn,D,rfl⟩:=hR.ex
 obtain⟨h1,h2⟩:=hS.putObj (.loop {state:= .busy,pending:=none,fn:=fn,tmps:=tmps,params:=ps,assign:=vw,body:=body,defers:=D}) k hk
 exact⟨_,run_beginRound (hS.Ml k hk) rfl,h _ h1 h2⟩
theorem Wk{R:LoopState->Option Code->Loop}{ps:Array Tmp}{tmps:Array Value}{vw body:Code}{l k:Nat}(jump:Option Code)(hR:Iv R ps tmps vw body)(hS:St B m0 m L)(hk:L[k]?=some (.obj l (.loop (R .busy none)))):
 ∃ m1,(Instr.endRound l jump).run P m.w= .ok (.bool jump.isNone) m1.w/\Le m m1/\St B m0 m1 (.obj l (.loop (R (if jump.isNone then .ready else .done) jump))::L.eraseIdx k):=by
 obtain⟨fn,D,rfl⟩:=hR.ex
 obtain⟨h1,h2⟩:=hS.putObj (.loop {state:=if jump.isNone then .ready else .done,pending:=jump,fn:=fn,tmps:=tmps,params:=ps,assign:=vw,body:=body,defers:=D}) k hk
 exact⟨_,run_endRound jump (hS.Ml k hk),h1,h2⟩
section
variable {R:LoopState->Option Code->Loop}{ps:Array Tmp}{tmps:Array Value}{vw body:Code}{l k:Nat}{next:Bool->World->Prop}
theorem T9(st:LoopState)(pe:Option Code)(hst:st≠ .busy)(hR:Iv R ps tmps vw body)(hS:St B m0 m L)(hk:L[k]?=some (.obj l (.loop (R st pe)))):
 ∃ m1,(Instr.endLoop l).run P m.w= .ok pe m1.w/\Le m m1/\St B m0 m1 (L.eraseIdx k):=by
 obtain⟨fn,D,rfl⟩:=hR.ex
 obtain⟨h1,h2⟩:=hS.putObj (.loop {state:= .exhausted,pending:=pe,fn:=fn,tmps:=tmps,params:=ps,assign:=vw,body:=body,defers:=D}) k hk
 exact⟨_,run_endLoop (hS.Ml k hk) hst,h1,h2.drop⟩
variable {gn:Func}{rr:Option Nat}
end
theorem Dn{fn:Func}{tmps:Array Value}{Rr:Ending->World->Prop}:∀ (Ds:List Nat) {w:World},Ds.Nodup->(∀ D∈Ds,w.heap[D]?=some (.deferred (some [])))->
 (∀ w',w'.os=w.os->w'.tape=w.tape->w'.output=w.output->w'.heap.size=w.heap.size->(∀ c,c ∉ Ds->w'.heap[c]?=w.heap[c]?)->LeavesInM (FW none) 0 P fn tmps Rr [] .returning w')->LeavesInM (FW none) 0 P fn tmps Rr (Nu Ds) .returning w
 | [],w,_,_,h=>h w rfl rfl rfl rfl (fun _ _=>rfl)
 | D::Ds,w,hn,hd,h=>by
   refine⟨by simp, .inl ⟨D,_,rfl,run_takeDeferred (hd D (by simp)),?_⟩⟩
   have hn':=List.nodup_cons.1 hn
   refine Dn Ds hn'.2 (fun E hE=>(World.putObj_heap_other (by rintro rfl;exact hn'.1 hE)).trans (hd E (by simp[hE]))) fun w' h1 h2 h3 h4 h5=>h w' h1 h2 h3 (by rw[h4];simp) fun c hc=>?_
   simp at hc
   exact(h5 c hc.2).trans (World.putObj_heap_other hc.1)
theorem Js{fn:Func}{m':Mem}{L':List b7}{QQ:Value->Mem->List b7->Prop}{Ds:List Nat}(k:Nat)(hK:Kn n a K (Nu Ds))(hS:St B m' m L)(hk:L[k]?=some (.defs Ds))(h:∀ m1,Le m m1->St B m' m1 (L.eraseIdx k)->∀ a',Kn n a' K->En P fn m' L' QQ .ret a' m1.w):
 En P fn m' L' QQ .ret a m.w:=by
 have h1:=hS.front k hk
 show LeavesInM _ _ _ _ a.tmps _ a.defers _ _
 rw[hK.defers]
 have hnd:Ds.Nodup:=by have:=h1.ow.nodup;rw[gw]at this;exact(List.nodup_append.1 this).1
 refine Dn Ds hnd (h1.ow.ok (.defs Ds) (by simp)) fun w' e1 e2 e3 e4 e5=>?_
 have key:∀ {B':List Nat} {m1:Mem},St B' m1 m (.defs Ds::L.eraseIdx k)->St B' m1 ⟨w',m.ok⟩ (.defs []::L.eraseIdx k):=fun hh=>hh.turn e1 e2 e3 e4 e5 (fun _ _ _=>trivial) (fun b hb=>by simp[b7.defs]at hb) (by simp[b7.defs]) (fun D hD=>by simp at hD)
 exact h ⟨w',m.ok⟩ (key (St.refl h1.ow)).le (key h1).drop {a with defers:=[]} ⟨hK.size,rfl,hK.at_⟩
end
end
section
open IntKind(i64)
open Go.RowKit
section
variable {P:Program}{Q:Exit->Act->World->Prop}{a:Act}{w:World}{rr:Option Nat}
theorem ss{b:Frame}{k:List Item}{cs:List Frame}{c:Code}:step P (lone (b.atR a (.code (.scope c)::k)) cs w)= .next (lone (b.atR a (.code c:: .inScope c::k)) cs w):=
 step_lone_go (by simp[stepG,stepG.exec,Frame.atR])
theorem Iq{b:Frame}{k:List Item}{cs:List Frame}{c:Code}:step P (lone (b.atR a (.inScope c::k)) cs w)= .next (lone (b.atR a k) cs w):=
 step_lone_go (by simp[stepG,stepG.exec,Frame.atR])
theorem WI{c:Code}(h:c.wpIn (FW rr) 0 P (Exit.noGoto Q) a w):(Code.scope c).wpIn (FW rr) 0 P Q a w:=by
 intro b k cs hro hb hr
 have h0:(lone (b.atR a (.code (.scope c)::k)) cs w).fenced P (FW rr):=fenced_calm hb hr rfl
 obtain⟨e,a₁,w₁,hq,harr⟩:=h b (.inScope c::k) cs hro hb hr
 cases e with
 | normal=>exact⟨.normal,a₁,w₁,hq, .head h0 ss (StepsIn.trans harr (.one (fenced_calm hb hr rfl) Iq))⟩
 | exit id=>exact⟨.exit id,a₁,w₁,hq,fun k' hk=> .head h0 ss (harr.1 k' (by simp[exitTo,hk])),fun hr' hk=>by
  obtain⟨k₁,h1,h2⟩:=harr.2 hr' (by simp[exitTo,hk])
  exact⟨k₁,by simpa[exitTo]using h1, .head h0 ss h2⟩⟩
 | goto l=>exact hq.elim
 | ret=>exact⟨_,a₁,w₁,hq, .of_steps (.one h0 ss) harr⟩
 | panic ch=>exact⟨_,a₁,w₁,hq, .of_steps (.one h0 ss) harr⟩
 | outgrown=>exact⟨_,a₁,w₁,hq, .of_steps (.one h0 ss) harr⟩
end
section
variable {P:Program}{Q:Exit->Act->World->Prop}{a:Act}{w:World}{rr:Option Nat}{ops ops2:Array Oper}{id n:Nat}{y:Code}{o:Oper}{rest:List Oper}{K:Kt}{ds:List Deferred}
theorem sr(h:wpListIn (FW rr) 0 P ops (Exit.then (y.wpIn (FW rr) 0 P Q) Q) ops.toList a w):((Code.region id ops false).seq y).wpIn (FW rr) 0 P Q a w:=MW (HQ h)
theorem nn{next:Act->World->Prop}(h:next a w):wpListIn (FW rr) 0 P ops (Exit.then next Q) [] a w:=wpListIn_nil (CC h)
theorem nx{Q2:Exit->Act->World->Prop}(h:wpListIn (FW rr) 0 P ops (Exit.then (y.wpIn (FW rr) 0 P Q) Q) ops.toList a w):wpListIn (FW rr) 0 P ops2 (Exit.then (((Code.region id ops false).seq y).wpIn (FW rr) 0 P Q) Q2) [] a w:=nn (sr h)
def ZR(o:Oper)(K:Kt):Option Value:=match o.op with| .move x| .assign x=>nt K x|_=>none
theorem qm(d:Nat){v:Value}(hK:Kn n a K ds)(next:∀ a',Kn n a' ((d,v)::K) ds->wpListIn (FW rr) 0 P ops Q rest a' w)(hc:XZ ops o K n d=true:=by kernel_rfl)(hm:ZR o K=some v:=by rfl):wpListIn (FW rr) 0 P ops Q (o::rest) a w:=by
 refine aaY d hK hc ?_
 unfold ZR at hm
 unfold bQ execOp
 cases ho:o.op<;>simp only[ho]at hm<;>first|cases hm|(simp only[hK.ev hm];exact next)
end
section
variable {P:Program}{o:Oper}{a:Act}{K:Kt}{B:List Nat}{m0 m:Mem}{L:List b7}{cF:Value->World->Prop}{x y:Operand}{t tx e:TypeId}{α:Type}
theorem EK{ty:TypeId}{z:Value}{sz bytes:Nat}(w:World)(hT:gv P t e z sz bytes)(hx:P.underlying tx=some (.int .i64))(n:Nat)(hn:0<n)(hb:n*bytes<=140737488355328)(hb0:1<=bytes):
 (Builtin.append_ #[t,tx] ty #[.slice none 0 0, .int .i64 (n:Int)]).run P w= .ok (.slice (some ⟨w.heap.size,0,none⟩) n (grownCap w n 0 e))
  (w.drew.alloc (.cells (Builtin.zeroCells z.cells n++Builtin.zeroCells z.cells (grownCap w n 0 e-n)) e)):=by
 obtain⟨i,hi,hz,hs,hby⟩:=info_parts hT.info
 have hnb:n<=n*bytes:=Nat.le_mul_of_pos_right _ hb0
 have hw:i64.wrap (n:Int)=(n:Int):=G.fB (by omega) (by omega)
 have h1:¬ ((n:Int)<0):=by omega
 have h2:¬ ((281474976710656:Int)<(n:Int)*(bytes:Int)):=by
  have:((n*bytes:Nat):Int)<=140737488355328:=by omega
  rw[Int.natCast_mul]at this
  omega
 have h3:¬ (9223372036854775807<(n:Int)):=by omega
 have h4':¬ (n=0\/sz=0):=by have:=hT.pos;omega
 have hfit:Builtin.nextslicecap n 0*bytes<=281474976710656:=growslice_fits (need:=n) (old:=0) hn hb
 have h5:¬ (281474976710656<Builtin.nextslicecap n 0*bytes):=by omega
 have h6:¬ n=0:=by omega
 have h4:¬ n*sz=0:=Nat.mul_ne_zero h6 (by have:=hT.pos;omega)
 simp[h4,Builtin.append_,run_underlying hT.sG,run_underlying hx,sizeOf,typeInfo,zeroValue,hi,hz,hs,hby,asInt,asIntOf,hw,h1,h2,h3,h4',h5,h6,Question.forced,newRow,grownCap,Builtin.firstCells]
theorem Re{z:Value}{sz bytes n:Nat}{i:Int}(hT:gv P t e z sz bytes)(hx:P.underlying tx=some (.int .i64))(hu:0<i/\i*(bytes:Int)<=140737488355328)(hn:n=i.toNat)(hK:Ke a K)(hS:St B m0 m L)(ho:o.op= .call ⟨.builtin .append,#[x,y],#[t,tx]⟩)
 (hxx:nt K x=some (.slice none 0 0)) (hy:nt K y=some (.int .i64 i)) (hb:decide (1<=bytes)=true)
 (hp:∀ m' b cap,Le m m'->cap<=maxLen->St B m0 m' (rowOf e sz (some b) cap ([]:List α)::L)->cF (.slice (mc (some b)) n cap) m'.w):bQ P o a m.w cF:=by
 obtain rfl:i=(n:Int):=by omega
 have hb1:1<=bytes:=aG hb
 have hnb:n*bytes<=140737488355328:=by
  have:=hu.2
  rw[<- Int.natCast_mul]at this
  omega
 have hrun:=EK (ty:=o.type) m.w hT hx n (by omega) hnb hb1
 have hle:n<=n*bytes:=Nat.le_mul_of_pos_right _ hb1
 have hge:=grownCap_ge m.w n 0 e
 have hcm:=grownCap_le_maxLen m.w n 0 e (by unfold maxLen;omega)
 unfold bQ execOp
 simp only[ho,resolve,invoke,builtin,Sem.run_bind,Sem.run_pure,Result.andThen_ok,bq,aP,bG,hK.ev hxx,hK.ev hy,hrun]
 have h1:=hS.drew
 have hsz:m.w.drew.heap.size=m.w.heap.size:=rfl
 have h2:=h1.new (o:= .cells (Builtin.zeroCells z.cells n++Builtin.zeroCells z.cells (grownCap m.w n 0 e-n)) e) rfl (rowOf e sz (some m.w.heap.size) (grownCap m.w n 0 e) ([]:List α)) (by simp[rowOf,b7.row]) (fun b hbb=>by
  cases hbb
  refine⟨_,jq m.w.drew _,?_⟩
  simp only[Array.size_append,size_zeroCells,hT.zs,<- aZ]
  congr 1;omega)
 exact hp _ _ _ ((Le.up m (Below.refl _ _).drew).trans (St.new (St.refl (Ow.nil (m.up m.w.drew))) rfl (rowOf e sz (some m.w.heap.size) (grownCap m.w n 0 e) ([]:List α)) (by simp[rowOf,b7.row]) (fun b hbb=>by
  cases hbb
  refine⟨_,jq m.w.drew _,?_⟩
  simp only[Array.size_append,size_zeroCells,hT.zs,<- aZ]
  congr 1;omega)).le) hcm h2
theorem gB.Su{R:Mem->α->List Value->Prop}{sz b cap:Nat}(m:Mem)(h:cap<=maxLen):gB R m sz (mc (some b)) cap ([]:List α):=
 ⟨[],⟨by simp,Nat.zero_le _,h,(fun h=>by cases h),fun j v hv=>by simp at hv⟩,rfl,fun i x cs hx=>by simp at hx⟩
theorem Fi{z:Value}{sz bytes n cap:Nat}{ad:Option Addr}{k:IntKind}(hT:gv P t e z sz bytes)(hK:Ke a K)(ho:o.op= .slice t x none (some y) none)(hxx:nt K x=some (.slice ad n cap))(hy:nt K y=some (.int k 0))
 (hp:cF (.slice ad 0 cap) m.w):bQ P o a m.w cF:=by
 have:=sj (P:=P) (w:=m.w) hT ad n cap 0 0 none (some (.int k ((0:Nat):Int))) (by simp only[Instr.sliceBounds,Sem.run_bind,Sem.run_pure,Result.andThen_ok,iI (P:=P) (j:=0) (Nat.zero_le cap)])
 unfold bQ execOp
 simp only[ho,ba,Option.map_none,hK.ev hxx,hK.ev hy,Sem.run_bind]
 rw[show((0:Nat):Int)=0 from rfl]at this
 simp only[this,Result.andThen_ok,Sem.run_pure,nm,Nat.sub_zero]
 exact hp
end
end
section
open Go.RowKit G
def b7.arr(g:Option Nat)(cs:Array Value)(T:TypeId):b7:=
 ⟨g.toList,fun _ _=>True,fun w=>∀ b,g=some b->w.heap[b]?=some (.cells cs T (0,0)),fun w h c hc=>by
  have:g=some c:=by cases g<;>simp_all
  exact ud (h c this),
  fun w w' h hs b hb=>by rw[hs b (by rw[hb];simp)];exact h b hb⟩
def jJ{α:Type}(R:Mem->α->List Value->Prop)(m:Mem)(sz:Nat)(g:Option Nat)(cs:Array Value)(ad:Option Addr)(cap:Nat)(l:List α):Prop:=
 ∃ css:List (List Value),css.length=l.length/\(∀ (i:Nat) (x:α) (c:List Value),l[i]?=some x->css[i]?=some c->c.length=sz/\R m x c)/\l.length<=cap/\cap<=maxLen/\(ad=none->cap=0)/\
  (0<cap->∃ b o,g=some b/\ad=some ⟨b,o,none⟩/\(∀ (j:Nat) (v:Value),css.flatten[j]?=some v->cs[o+j]?=some v)/\o+cap*sz<=cs.size)
theorem size_le{cs cs':Array Value}(h:∀ i,i<cs.size->cs'[i]?≠none):cs.size<=cs'.size:=by
 refine Nat.le_of_not_lt fun hlt=>h _ hlt (Array.getElem?_eq_none (Nat.le_refl _))
section
variable {α:Type}{R:Mem->α->List Value->Prop}{m m':Mem}{sz:Nat}{g:Option Nat}{cs:Array Value}{ad:Option Addr}{cap:Nat}{l l':List α}{B:List Nat}{m0:Mem}{L:List b7}
theorem jJ.mono(hR:wM R sz)(h:jJ R m sz g cs ad cap l)(k:Le m m'):jJ R m' sz g cs ad cap l:=
 let⟨css,h1,h2,h3⟩:=h;⟨css,h1,fun i x c hx hc=>⟨(h2 i x c hx hc).1,hR.mono (h2 i x c hx hc).2 k⟩,h3⟩
theorem jJ.xP(h:jJ R m sz g cs ad cap l):l.length<=9223372036854775807/\cap<=9223372036854775807/\l.length<=cap:=by
 obtain⟨_,_,_,h3,h4,_⟩:=h;unfold maxLen at h4;omega
theorem jJ.nil(m:Mem)(sz:Nat)(cs:Array Value):jJ R m sz none cs none 0 ([]:List α):=⟨[],rfl,fun i x c h=>by simp at h,Nat.le_refl _,by simp[maxLen],fun _=>rfl,fun h=>absurd h (Nat.lt_irrefl _)⟩
theorem St.Sc(hS:St B m0 m L)(cs:Array Value)(T:TypeId):St B m0 m (.arr none cs T::L):=
 ⟨hS.le,hS.kept,hS.news,⟨by rw[gw];exact hS.ow.nodup,fun x hx=>by
  rcases aV.1 hx with rfl|hx
  . intro b hb;cases hb
  . exact hS.ow.ok x hx,fun x hx=>by
  rcases aV.1 hx with rfl|hx
  . intro b hb;simp[b7.arr]at hb
  . exact hS.ow.apart x hx⟩,fun b hb=>hS.HY b (by rw[gw]at hb;simpa[b7.arr]using hb)⟩
theorem iP{β:Type}(sz:Nat):∀ (css:List (List β)),(∀ (i:Nat) (c:List β),css[i]?=some c->c.length=sz)->css.flatten.length=css.length*sz
 | [],_=>by simp
 | c::css,h=>by
   have h0:=h 0 c rfl
   simp only[List.flatten_cons,aq,bK]
   rw[h0,iP sz css (fun i c hi=>h (i+1) c (by simpa using hi)),aZ];omega
theorem A1{css:List (List Value)}(h1:css.length=l.length)(h2:∀ (i:Nat) (x:α) (c:List Value),l[i]?=some x->css[i]?=some c->c.length=sz/\R m x c):∀ (i:Nat) (c:List Value),css[i]?=some c->c.length=sz:=fun i c hc=>by
 have hi:i<css.length:=(List.getElem?_eq_some_iff.1 hc).1
 exact(h2 i (l[i]'(by omega)) c (by simp) hc).1
structure RO{α:Type}(R:Mem->α->List Value->Prop)(m:Mem)(sz:Nat)(b:Nat)(cs:Array Value)(ad:Option Addr)(cap:Nat)(l:List α)(j p:Nat)(u:α)(ecs:List Value):Prop where
 lt:j<l.length
 rel:R m u ecs
 len:ecs.length=sz
 get:∀ (k:Nat) (v:Value),ecs[k]?=some v->cs[p+k]?=some v
 put:∀ (m':Mem) (u':α) (ecs':List Value) (cs':Array Value),wM R sz->Le m m'->R m' u' ecs'->(∀ i,cs'[i]?=if p<=i/\i<p+sz then ecs'[i-p]? else cs[i]?)->jJ R m' sz (some b) cs' ad cap (l.set j u')
theorem jJ.elem(hs:0<sz)(h:jJ R m sz g cs ad cap l){j:Nat}(hj:j<l.length):∃ b p ecs,g=some b/\ad.map (·.add (j*sz))=some ⟨b,p,none⟩/\RO R m sz b cs ad cap l j p l[j] ecs:=by
 obtain⟨css,h1,h2,h3,h4,h5,h6⟩:=h
 obtain⟨b,o,rfl,rfl,hg,hrm⟩:=h6 (by omega)
 have hcl:=A1 h1 h2
 have hjc:j<css.length:=by omega
 obtain⟨k1,k2⟩:=h2 j l[j] css[j] (by simp) (by simp)
 refine⟨b,o+j*sz,css[j],rfl,by simp[Addr.add_mid],hj,k2,k1,fun k v hv=>?_,fun m' u' ecs' cs' hR hle hr hput=>?_⟩
 . rw[Nat.add_assoc];exact hg _ _ (n4 sz css hcl j k css[j] v (by simp) hv)
 . have hlen':ecs'.length=sz:=hR.size hr
   refine⟨css.set j ecs',by simp[h1],fun i x c hx hc=>?_,by simpa using h3,h4,h5,fun _=>⟨b,o,rfl,rfl,fun i v hv=>?_,Nat.le_trans hrm (size_le fun i hi=>?_)⟩⟩
   . rw[List.getElem?_set]at hx hc
     by_cases e:j=i
     . subst e
       rw[if_pos rfl,if_pos hj]at hx
       rw[if_pos rfl,if_pos hjc]at hc
       cases hx;cases hc
       exact⟨hlen',hr⟩
     . rw[if_neg e]at hx hc
       obtain⟨q1,q2⟩:=h2 i x c hx hc
       exact⟨q1,hR.mono q2 hle⟩
   . have hcl':∀ (i:Nat) (c:List Value),(css.set j ecs')[i]?=some c->c.length=sz:=fun i c hc=>by
      rw[List.getElem?_set]at hc
      by_cases hji:j=i
      . rw[if_pos hji,if_pos hjc]at hc;cases hc;exact hlen'
      . rw[if_neg hji]at hc;exact hcl i c hc
     have hfl:=iP sz _ hcl'
     have hi:i<(css.set j ecs').flatten.length:=(List.getElem?_eq_some_iff.1 hv).1
     rw[hfl,bJ]at hi
     have hq:i/sz<css.length:=Nat.div_lt_of_lt_mul (by rw[Nat.mul_comm];exact hi)
     have hdm:i/sz*sz+i % sz=i:=Nat.div_add_mod' i sz
     have hmod:i % sz<sz:=Nat.mod_lt _ hs
     rw[hput]
     by_cases e:i/sz=j
     . have hc:(css.set j ecs')[i/sz]?=some ecs':=by rw[e,List.getElem?_set,if_pos rfl,if_pos hjc]
       have:=n4 sz _ hcl' (i/sz) (i % sz) ecs' (ecs'[i % sz]'(by omega)) hc (by simp)
       rw[hdm,hv]at this
       rw[if_pos (by rw[<- e];omega),show o+i-(o+j*sz)=i % sz by rw[<- e];omega,this]
       simp
     . have hne:¬ (o+j*sz<=o+i/\o+i<o+j*sz+sz):=fun⟨a1,a2⟩=>e (by
        have:i=j*sz+(i-j*sz):=by omega
        rw[this,Nat.add_comm,Nat.add_mul_div_right _ _ hs,Nat.div_eq_of_lt (by omega),aX])
       rw[if_neg hne]
       refine hg i v ?_
       have hc:(css.set j ecs')[i/sz]?=some css[i/sz]:=by rw[List.getElem?_set,if_neg (fun h=>e h.symm)];simp
       have t1:=n4 sz _ hcl' (i/sz) (i % sz) css[i/sz] (css[i/sz]'hq)[i % sz]! hc (by
        have:=hcl (i/sz) css[i/sz] (by simp)
        rw[getElem!_pos _ _ (by omega)];simp)
       have t2:=n4 sz _ hcl (i/sz) (i % sz) css[i/sz] (css[i/sz]'hq)[i % sz]! (by simp) (by
        have:=hcl (i/sz) css[i/sz] (by simp)
        rw[getElem!_pos _ _ (by omega)];simp)
       rw[hdm]at t1 t2
       rw[hv]at t1
       rw[t2,<- t1]
   . rw[hput]
     split
     . rw[List.getElem?_eq_getElem (by omega)];exact Option.some_ne_none _
     . rw[Array.getElem?_eq_getElem hi];exact Option.some_ne_none _
theorem jJ.cut(h:jJ R m sz g cs ad cap l)(i r q:Nat)(hl:i<=r)(hr:r<=l.length)(hrm:r<=q)(hm:q<=cap):jJ R m sz g cs (iX ad q i sz) (q-i) ((l.take r).drop i):=by
 obtain⟨css,h1,h2,h3,h4,h5,h6⟩:=h
 have hcl:=A1 h1 h2
 refine⟨(css.take r).drop i,by simp[h1],fun j x c hx hc=>?_,by simp;omega,by omega,fun e=>?_,fun hp=>?_⟩
 . simp only[List.getElem?_drop,List.getElem?_take]at hx hc
   split at hx
   . rename_i hlt
     rw[if_pos hlt]at hc
     exact h2 _ _ _ hx hc
   . cases hx
 . unfold iX at e
   split at e
   . omega
   . have:ad=none:=by simpa using e
     have:=h5 this;omega
 . obtain⟨b,o,hg,rfl,ho,hrm⟩:=h6 (by omega)
   refine⟨b,o+i*sz,hg,?_,fun j v hv=>?_,Nat.le_trans ?_ hrm⟩
   . unfold iX;rw[if_neg (by omega)];simp[Addr.add_mid]
   . rw[<- vf sz (css.take r) i (fun k c hk=>hcl k c (by
      rw[List.getElem?_take]at hk;split at hk
      . exact hk
      . cases hk)),<- vg sz css r hcl,List.getElem?_drop,List.getElem?_take]at hv
     split at hv
     . rw[Nat.add_assoc];exact ho _ _ hv
     . cases hv
   . rw[Nat.add_assoc,<- aZ];exact Nat.add_le_add_left (Nat.mul_le_mul_right _ (by omega)) _
theorem St.IV(hR:wM R sz){T:TypeId}(h:St B m0 m (.arr g cs T::L))(hA:jJ R m sz g cs ad cap l):∃ m':Mem,m'.w=m.w/\Le m m'/\St B m0 m' L/\gB R m' sz ad cap l:=by
 have hb:∀ b,g=some b->m.w.heap[b]?=some (.cells cs T (0,0)):=h.ow.ok (.arr g cs T) (ay ..)
 let X:Nat->Nat->Prop:=fun c _=>g=some c
 have k:=h.z6 (e':= .row none T 0 0) X (fun c o hc=>by simp[b7.arr];exact hc) (fun c hc=>by cases hc) (fun c hc=>by simp[b7.row]at hc) (by simp[b7.row]) (fun c hc=>by simp[b7.row]at hc)
 refine⟨m.z6 X,rfl,Le.z6 m X,k.drop,?_⟩
 obtain⟨css,h1,h2,h3,h4,h5,h6⟩:=hA
 have hcl:=A1 h1 h2
 refine⟨css,⟨by rw[iP sz css hcl,h1],h3,h4,h5,fun j v hv=>?_⟩,h1,fun i x c hx hc=>⟨(h2 i x c hx hc).1,hR.mono (h2 i x c hx hc).2 (Le.z6 m X)⟩⟩
 have hj:j<css.flatten.length:=(List.getElem?_eq_some_iff.1 hv).1
 rw[iP sz css hcl,h1]at hj
 have hc0:0<cap:=by
  refine Nat.pos_of_ne_zero fun h0=>?_
  have:l.length=0:=by omega
  rw[this]at hj;simp at hj
 obtain⟨b,o,hg,ha,ho,_⟩:=h6 hc0
 refine⟨b,o,ha,⟨.inr hg,ud (hb b hg)⟩,?_⟩
 show m.w.cell? _=_
 rw[cell_of_row _ _ _ _ _ _ (hb b hg)];exact ho j v hv
end
section
variable {P:Program}{o:Oper}{a:Act}{K:Kt}{B:List Nat}{m0 m:Mem}{L:List b7}{cF:Value->World->Prop}{x y:Operand}{t e:TypeId}{α:Type}{R:Mem->α->List Value->Prop}{sz bytes cap:Nat}{zv:Value}{ad:Option Addr}{l l':List α}{g:Option Nat}{cs:Array Value}{u:α}
theorem St.toBox{b:Nat}{T:TypeId}(h:St B m0 m (.arr (some b) cs T::L)):St B m0 m (.box b cs T::L):=by
 have hbl:bS (.box b cs T::L)=bS (.arr (some b) cs T::L):=by simp[b7.box,b7.arr]
 refine⟨h.le,h.kept,h.news,⟨by rw[hbl];exact h.ow.nodup,fun x hx=>?_,fun x hx c hc o' hf=>?_⟩,fun c hc=>h.HY c (by rw[<- hbl];exact hc)⟩
 . rcases aV.1 hx with rfl|hx
   . exact h.ow.ok (.arr (some b) cs T) (by simp) b rfl
   . exact h.ow.ok x (by simp[hx])
 . rcases aV.1 hx with rfl|hx
   . exact h.ow.apart (.arr (some b) cs T) (by simp) c (by simpa[b7.box,b7.arr]using hc) o' trivial
   . exact h.ow.apart x (by simp[hx]) c hc o' hf
theorem St.toArr{b:Nat}{T:TypeId}(h:St B m0 m (.box b cs T::L)):St B m0 m (.arr (some b) cs T::L):=by
 have hbl:bS (.box b cs T::L)=bS (.arr (some b) cs T::L):=by simp[b7.box,b7.arr]
 refine⟨h.le,h.kept,h.news,⟨by rw[<- hbl];exact h.ow.nodup,fun x hx=>?_,fun x hx c hc o' hf=>?_⟩,fun c hc=>h.HY c (by rw[hbl];exact hc)⟩
 . rcases aV.1 hx with rfl|hx
   . intro b' hb';cases hb';exact h.ow.ok (.box b cs T) (by simp)
   . exact h.ow.ok x (by simp[hx])
 . rcases aV.1 hx with rfl|hx
   . exact h.ow.apart (.box b cs T) (by simp) c (by simpa[b7.box,b7.arr]using hc) o' trivial
   . exact h.ow.apart x (by simp[hx]) c hc o' hf
theorem oW(cs:Array Value)(i:Nat)(vs:List Value)(h:i+vs.length<=cs.size)(q:Nat):(putAt cs i vs)[q]?=if i<=q/\q<i+vs.length then vs[q-i]? else cs[q]?:=by
 have hl:(cs.toList.take i).length=i:=by simp;omega
 unfold putAt
 rw[List.getElem?_toArray,aA]
 by_cases h1:q<i
 . rw[if_neg (by omega),List.getElem?_append_left (by omega),List.getElem?_take,if_pos h1];simp
 . rw[List.getElem?_append_right (by omega),hl]
   by_cases h2:q<i+vs.length
   . rw[if_pos ⟨by omega,h2⟩,List.getElem?_append_left (by omega)]
   . rw[if_neg (by omega),List.getElem?_append_right (by omega),List.getElem?_drop,show i+vs.length+(q-i-vs.length)=q by omega];simp
theorem Uj{b p k j:Nat}{v:Value}{T:TypeId}{ecs:List Value}(hR:wM R sz)(hE:RO R m sz b cs ad cap l j p u ecs)(hK:Ke a K)(q:Nat)(hS:St B m0 m L)(ho:o.op= .store t x y)(hx:nt K x=some (.pointer (some ⟨b,p+k,none⟩)))(hy:nt K y=some v)(hk:L[q]?=some (.box b cs T))
 (hT:(r9 P t).map (·.2)=some v.cells.size) (h1:v.cells.toList.all (·.oneCell')=true) (hfit:k+v.cells.size<=sz) (u':α) (ecs':List Value) (he:ecs'=ecs.take k++v.cells.toList++ecs.drop (k+v.cells.size)) (hr:∀ m',Le m m'->R m' u' ecs')
 (hp:∀ m' cs',Le m m'->St B m0 m' (.box b cs' T::L.eraseIdx q)->cs'.size=cs.size->jJ R m' sz (some b) cs' ad cap (l.set j u')->cF undef m'.w):bQ P o a m.w cF:=by
 have hpos:=hR.pos
 have hlen:=hE.len
 have hbig:p+sz<=cs.size:=by
  have h5:=hE.get (sz-1) (ecs[sz-1]'(by omega)) (List.getElem?_eq_getElem _)
  have h6:=(Array.getElem?_eq_some_iff.1 h5).1
  omega
 have hput:=oW cs (p+k) v.cells.toList (by rw[Array.length_toList];omega)
 have hsize:(putAt cs (p+k) v.cells.toList).size=cs.size:=by
  unfold putAt;rw[List.size_toArray];simp only[aq,aM,bj,Array.length_toList];omega
 refine PI hK q hS ho hx hy hk hT (aF (by omega)) h1 fun m' hl hS'=>hp m' _ hl hS' hsize (hE.put m' u' ecs' _ hR hl (hr m' hl) fun i=>?_)
 rw[hput]
 simp only[Array.length_toList]
 by_cases c1:p<=i/\i<p+sz
 . rw[if_pos c1,he]
   have t1:(ecs.take k).length=k:=by simp;omega
   by_cases c2:p+k<=i/\i<p+k+v.cells.size
   . rw[if_pos c2,aA,List.getElem?_append_right (by omega),List.getElem?_append_left (by rw[t1,Array.length_toList];omega),t1]
     congr 1;omega
   . rw[if_neg c2]
     have hi:ecs[i-p]?=cs[i]?:=by
      have:=hE.get (i-p) ecs[i-p] (by simp)
      rw[show p+(i-p)=i by omega]at this
      rw[this];simp
     by_cases c3:i<p+k
     . rw[aA,List.getElem?_append_left (by omega),List.getElem?_take,if_pos (by omega)];exact hi.symm
     . rw[aA,List.getElem?_append_right (by omega),List.getElem?_append_right (by rw[t1,Array.length_toList];omega),List.getElem?_drop,t1,Array.length_toList]
       rw[show k+v.cells.size+(i-p-k-v.cells.size)=i-p by omega];exact hi.symm
 . rw[if_neg c1,if_neg (by omega)]
theorem MJ{b p k j:Nat}{v:Value}{T:TypeId}{ecs:List Value}(hR:wM R sz)(hE:RO R m sz b cs ad cap l j p u ecs)(hK:Ke a K)(q:Nat)(hS:St B m0 m L)(ho:o.op= .store t x y)(hx:nt K x=some (.pointer (some ⟨b,p+k,none⟩)))(hy:nt K y=some v)(hk:L[q]?=some (.arr (some b) cs T))
 (hT:(r9 P t).map (·.2)=some v.cells.size) (h1:v.cells.toList.all (·.oneCell')=true) (hfit:decide (k+v.cells.size<=sz)=true) (u':α) (ecs':List Value) (he:ecs'=ecs.take k++v.cells.toList++ecs.drop (k+v.cells.size)) (hr:∀ m',Le m m'->R m' u' ecs')
 (hp:∀ m' cs',Le m m'->St B m0 m' (.arr (some b) cs' T::L.eraseIdx q)->cs'.size=cs.size->jJ R m' sz (some b) cs' ad cap (l.set j u')->cF undef m'.w):bQ P o a m.w cF:=
 Uj hR hE hK 0 (hS.front q hk).toBox ho hx hy rfl hT h1 (aG hfit) u' ecs' he hr fun m' cs' hl hS' hsz hA=>hp m' cs' hl (St.toArr hS') hsz hA
theorem Uk{b p k j:Nat}{v:Value}{T:TypeId}{ecs:List Value}(hR:wM R sz)(hg:g=some b)(hE:RO R m sz b cs ad cap l j p u ecs)(hK:Ke a K)(q:Nat)(hS:St B m0 m L)(ho:o.op= .store t x y)(hx:nt K x=some (.pointer (some ⟨b,p+k,none⟩)))(hy:nt K y=some v)(hk:L[q]?=some (.arr g cs T))
 (hT:(r9 P t).map (·.2)=some v.cells.size) (h1:v.cells.toList.all (·.oneCell')=true) (hfit:decide (k+v.cells.size<=sz)=true) (u':α) (hr:∀ m',Le m m'->R m' u' (ecs.take k++v.cells.toList++ecs.drop (k+v.cells.size)))
 (hp:∀ m' cs',Le m m'->St B m0 m' (.arr g cs' T::L.eraseIdx q)->jJ R m' sz g cs' ad cap (l.set j u')->cF undef m'.w):bQ P o a m.w cF:=by
 subst hg;exact MJ hR hE hK q hS ho hx hy hk hT h1 hfit u' _ rfl hr fun m' cs' h2 h3 _ h5=>hp m' cs' h2 h3 h5
theorem Oh{k:IntKind}{i:Int}(hT:gv P t e zv sz bytes)(hE:jJ R m sz g cs ad cap l)(hx:rM l i=some l')(hK:Ke a K)(ho:o.op= .slice t x (some y) none none)(hxx:nt K x=some (.slice ad l.length cap))(hy:nt K y=some (.int k i))
 (hp:∀ a' c',jJ R m sz g cs a' c' l'->cF (.slice a' l'.length c') m.w):bQ P o a m.w cF:=by
 unfold rM at hx
 split at hx
 . rename_i hi
   cases hx
   obtain⟨j,rfl⟩:∃ j:Nat,i=(j:Int):=⟨i.toNat,by omega⟩
   have hj:j<=l.length:=by omega
   have hc:=hE.xP.2.2
   have:=sj (P:=P) (w:=m.w) hT ad l.length cap j l.length (some (.int k j)) none (by simp only[Instr.sliceBounds,Sem.run_bind,Sem.run_pure,Result.andThen_ok,iI hj])
   unfold bQ execOp
   simp only[ho,ba,Option.map_none,hK.ev hxx,hK.ev hy,Sem.run_bind,this,Result.andThen_ok,Sem.run_pure]
   have h2:=hE.cut j l.length cap hj (Nat.le_refl _) hc (Nat.le_refl _)
   rw[bH (Nat.le_refl _)]at h2
   have h3:=hp (iX ad cap j sz) (cap-j) (by simpa using h2)
   rw[bj,aK]at h3
   exact h3
 . cases hx
theorem Ui{k:IntKind}{i:Int}(hT:gv P t e zv sz bytes)(hE:jJ R m sz g cs ad cap l)(hx:uS l i=some l')(hK:Ke a K)(ho:o.op= .slice t x none (some y) none)(hxx:nt K x=some (.slice ad l.length cap))(hy:nt K y=some (.int k i))
 (hp:jJ R m sz g cs ad cap l'->cF (.slice ad l'.length cap) m.w):bQ P o a m.w cF:=by
 obtain⟨j,rfl,hj,rfl⟩:=Cr hx
 have hc:=hE.xP.2.2
 have:=sj (P:=P) (w:=m.w) hT ad l.length cap 0 j none (some (.int k j)) (by simp only[Instr.sliceBounds,Sem.run_bind,Sem.run_pure,Result.andThen_ok,iI (Nat.le_trans hj hc)])
 unfold bQ execOp
 simp only[ho,ba,Option.map_none,hK.ev hxx,hK.ev hy,Sem.run_bind,this,Result.andThen_ok,Sem.run_pure,nm,Nat.sub_zero]
 have h2:=hE.cut 0 j cap (Nat.zero_le _) hj (Nat.le_trans hj hc) (Nat.le_refl _)
 rw[nm,Nat.sub_zero,List.drop_zero]at h2
 have h3:=hp h2
 rw[aM,Nat.min_eq_left hj]at h3
 exact h3
theorem Ub{cap2:Nat}{l2:List α}{a2:Option Addr}(hT:gv P t e zv sz bytes)(hR:wM R sz)(hx:app bytes l l2=some l')(hK:Ke a K)(q:Nat)(hS:St B m0 m L)(hk:L[q]?=some (.arr g cs e))(hsz:∀ b,g=some b->cs.size=cap*sz)(hE:jJ R m sz g cs (mc g) cap l)(hE2:gB R m sz a2 cap2 l2)
 (ho:o.op= .call ⟨.builtin .append,#[x,y],#[t,t]⟩) (hxx:nt K x=some (.slice (mc g) l.length cap)) (hy:nt K y=some (.slice a2 l2.length cap2)) (hb:decide (1<=bytes)=true)
 (hp:∀ m' g' cs' cap',Le m m'->St B m0 m' (.arr g' cs' e::L.eraseIdx q)->(∀ b,g'=some b->cs'.size=cap'*sz)->jJ R m' sz g' cs' (mc g') cap' l'->cF (.slice (mc g') l'.length cap') m'.w):bQ P o a m.w cF:=by
 obtain⟨hlen,rfl⟩:=xA hx
 have hmul:l.length+l2.length<=(l.length+l2.length)*bytes:=Nat.le_mul_of_pos_right _ (aG hb)
 have h1:=hS.front q hk
 let R0:Mem->α->List Value->Prop:=fun _ x c=>R m x c
 have hR0:wM R0 sz:=⟨fun h _=>h,fun h=>hR.size h,fun h=>hR.one h,hR.pos⟩
 have hbk:∀ b,g=some b->m.w.heap[b]?=some (.cells cs e (0,0)):=h1.ow.ok (.arr g cs e) (ay ..)
 let X:Nat->Nat->Prop:=fun c o=>g=some c/\o<l.length*sz
 have hO:Ow m [.arr g cs e]:=Ow.left (L:=[.arr g cs e]) h1.ow
 have hg1:=(St.refl hO).z6 (e':=rowOf e sz g cap l) X (fun c o hc=>by simp[b7.arr];exact hc.1) (fun b hb=>⟨cs,hbk b hb,hsz b hb⟩) (fun c hc=>by simpa[b7.arr,rowOf,b7.row]using hc) (by cases g<;>simp[rowOf,b7.row])
  (fun c hc o' hf=>⟨trivial,fun hX=>by simp only[rowOf,b7.row]at hf;exact absurd hX.2 (by omega)⟩)
 have hl1:Le m (m.z6 X):=Le.z6 m X
 obtain⟨css,c1,c2,c3,c4,c5,c6⟩:=hE
 have hcl:=A1 c1 c2
 have hE1:gB R0 (m.z6 X) sz (mc g) cap l:=by
  refine⟨css,⟨by rw[iP sz css hcl,c1],c3,c4,c5,fun j v hv=>?_⟩,c1,fun i x c hx hc=>c2 i x c hx hc⟩
  have hj:j<css.flatten.length:=(List.getElem?_eq_some_iff.1 hv).1
  rw[iP sz css hcl,c1]at hj
  have hc0:0<cap:=by
   refine Nat.pos_of_ne_zero fun h0=>?_
   have:l.length=0:=by omega
   rw[this]at hj;simp at hj
  obtain⟨b,o',hgb,ha,ho',_⟩:=c6 hc0
  have:o'=0:=by rw[hgb]at ha;simpa using(by simpa using ha:(0:Nat)=o').symm
  subst this
  refine⟨b,0,ha,⟨.inr ⟨hgb,by omega⟩,ud (hbk b hgb)⟩,?_⟩
  show m.w.cell? _=_
  rw[cell_of_row _ _ _ _ _ _ (hbk b hgb),aX];simpa using ho' j v hv
 have hE2':gB R0 (m.z6 X) sz a2 cap2 l2:=by
  obtain⟨dss,d1,d2,d3⟩:=hE2
  exact⟨dss,d1.mono hl1,d2,d3⟩
 obtain⟨g',cap',m',hrun,hle',hS',hEl⟩:=Gx (P:=P) (ty:=o.type) hT hR0 (St.refl hg1.ow) hE1 hE2' hlen (by unfold maxLen;omega)
 have hle:Le m m':=hl1.trans hle'
 have hrow:∀ b,g'=some b->∃ cur,m'.w.heap[b]?=some (.cells cur e (0,0))/\cur.size=cap'*sz:=hS'.ow.ok (rowOf e sz g' cap' (l++l2)) (by simp)
 obtain⟨cs',hcs'⟩:∃ cs':Array Value,∀ b,g'=some b->m'.w.heap[b]?=some (.cells cs' e (0,0))/\cs'.size=cap'*sz:=by
  cases g' with
  | none=>exact⟨#[],fun b h=>by cases h⟩
  | some b=>obtain⟨cur,h2,h3⟩:=hrow b rfl;exact⟨cur,fun b' h=>by cases h;exact⟨h2,h3⟩⟩
 let m2:Mem:=⟨m'.w,m.ok⟩
 have hlm:Le m m2:=⟨hle.os,hle.tape,hle.output,hle.size,fun b o' hb=>⟨⟨hb,Nat.lt_of_lt_of_le hb.2 hle.size⟩,(hle.same b o' hb).2⟩⟩
 have hblk:∀ b,g'=some b->g=some b\/m.w.heap.size<=b:=fun b hgb=>by
  have:=hS'.HY b (by simp[rowOf,b7.row,hgb])
  rcases this with h|h
  . simp[rowOf,b7.row]at h;exact .inl h
  . exact .inr h
 have k:St (bS [b7.arr g cs e]) m m2 [.arr g' cs' e]:=by
  refine⟨hlm,fun b hb hn=>?_,fun b o' hb=> .inl hb.1,⟨by cases g'<;>simp[b7.arr],fun x hx=>?_,fun x hx c hc o' _ hm=>?_⟩,fun b hb=>?_⟩
  . have:=hS'.kept b hb (by simpa[rowOf,b7.row,b7.arr]using hn)
    exact this
  . simp at hx;subst hx;exact fun b hb=>(hcs' b hb).1
  . simp at hx;subst hx
    have hgc:g'=some c:=by simpa[b7.arr]using hc
    rcases hblk c hgc with h|h
    . exact hO.apart (.arr g cs e) (by simp) c (by simp[b7.arr,h]) o' trivial hm.1
    . exact absurd hm.1.2 (by omega)
  . have hgc:g'=some b:=by simpa[b7.arr]using hb
    rcases hblk b hgc with h|h
    . exact .inl (by simp[b7.arr,h])
    . exact .inr h
 have hfin:=St.frame (L:=[b7.arr g cs e]) h1 k
 obtain⟨ess,e1,e2,e3⟩:=hEl
 have hAS:jJ R m2 sz g' cs' (mc g') cap' (l++l2):=by
  refine⟨ess,e2,fun i x c hx hc=>⟨(e3 i x c hx hc).1,hR.mono (e3 i x c hx hc).2 hlm⟩,e1.2.1,e1.2.2.1,e1.2.2.2.1,fun hc0=>?_⟩
  cases hgg:g' with
  | none=>have:=e1.2.2.2.1 (by rw[hgg];rfl);omega
  | some b=>
    refine⟨b,0,rfl,rfl,fun j v hv=>?_,by rw[(hcs' b hgg).2];omega⟩
    obtain⟨b',o',ha,_,hc⟩:=e1.2.2.2.2 j v hv
    rw[hgg]at ha
    cases ha
    rw[cell_of_row _ _ _ _ _ _ (hcs' b hgg).1]at hc
    simpa using hc
 unfold bQ execOp
 simp only[ho,resolve,invoke,builtin,Sem.run_bind,Sem.run_pure,Result.andThen_ok,bq,aP,bG,hK.ev hxx,hK.ev hy]
 have hrun':(Builtin.append_ #[t,t] o.type #[.slice (mc g) l.length cap, .slice a2 l2.length cap2]).run P m.w= .ok (.slice (mc g') (l++l2).length cap') m'.w:=hrun
 rw[hrun']
 exact hp m2 g' cs' cap' hlm hfin (fun b hb=>(hcs' b hb).2) hAS
theorem Rj{k:IntKind}{i:Int}{n:Nat}(hT:gv P t e zv sz bytes)(hi:0<=i/\i<=(n:Int))(hc:n<=cap)(hK:Ke a K)(ho:o.op= .slice t x (some y) none none)(hxx:nt K x=some (.slice ad n cap))(hy:nt K y=some (.int k i))
 (hp:cF (.slice (iX ad cap i.toNat sz) (n-i.toNat) (cap-i.toNat)) m.w):bQ P o a m.w cF:=by
 obtain⟨j,rfl⟩:∃ j:Nat,i=(j:Int):=⟨i.toNat,by omega⟩
 have hj:j<=n:=by omega
 have:=sj (P:=P) (w:=m.w) hT ad n cap j n (some (.int k j)) none (by simp only[Instr.sliceBounds,Sem.run_bind,Sem.run_pure,Result.andThen_ok,iI hj])
 unfold bQ execOp
 simp only[ho,ba,Option.map_none,hK.ev hxx,hK.ev hy,Sem.run_bind,this,Result.andThen_ok,Sem.run_pure]
 exact hp
def B3{α:Type}(R:Mem->α->List Value->Prop)(m:Mem)(sz:Nat)(g:Option Nat)(cs:Array Value)(cap:Nat)(l:List α):Prop:=jJ R m sz g cs (mc g) cap l/\∀ b,g=some b->cs.size=cap*sz
theorem B3.mono(hR:wM R sz)(h:B3 R m sz g cs cap l){m':Mem}(k:Le m m'):B3 R m' sz g cs cap l:=⟨h.1.mono hR k,h.2⟩
theorem B3.nil(m:Mem)(sz:Nat)(cs:Array Value):B3 R m sz none cs 0 ([]:List α):=⟨jJ.nil m sz cs,fun b h=>by cases h⟩
theorem Ro{b p k j:Nat}{v:Value}{T:TypeId}{ecs:List Value}(hF:B3 R m sz g cs cap l)(hR:wM R sz)(hg:g=some b)(hE:RO R m sz b cs (mc g) cap l j p u ecs)(hK:Ke a K)(q:Nat)(hS:St B m0 m L)(ho:o.op= .store t x y)(hx:nt K x=some (.pointer (some ⟨b,p+k,none⟩)))(hy:nt K y=some v)(hk:L[q]?=some (.arr g cs T))
 (hT:(r9 P t).map (·.2)=some v.cells.size) (h1:v.cells.toList.all (·.oneCell')=true) (hfit:decide (k+v.cells.size<=sz)=true) (u':α) (hr:∀ m',Le m m'->R m' u' (ecs.take k++v.cells.toList++ecs.drop (k+v.cells.size)))
 (hp:∀ m' cs',Le m m'->St B m0 m' (.arr g cs' T::L.eraseIdx q)->B3 R m' sz g cs' cap (l.set j u')->cF undef m'.w):bQ P o a m.w cF:=by
 subst hg;exact MJ hR hE hK q hS ho hx hy hk hT h1 hfit u' _ rfl hr fun m' cs' h2 h3 h4 h5=>hp m' cs' h2 h3 ⟨h5,fun b hb=>by rw[h4];exact hF.2 b hb⟩
theorem Ud{cap2:Nat}{l2:List α}{a2:Option Addr}(hT:gv P t e zv sz bytes)(hR:wM R sz)(hx:app bytes l l2=some l')(hK:Ke a K)(q:Nat)(hS:St B m0 m L)(hk:L[q]?=some (.arr g cs e))(hE:B3 R m sz g cs cap l)(hE2:gB R m sz a2 cap2 l2)
 (ho:o.op= .call ⟨.builtin .append,#[x,y],#[t,t]⟩) (hxx:nt K x=some (.slice (mc g) l.length cap)) (hy:nt K y=some (.slice a2 l2.length cap2)) (hb:decide (1<=bytes)=true)
 (hp:∀ m' g' cs' cap',Le m m'->St B m0 m' (.arr g' cs' e::L.eraseIdx q)->B3 R m' sz g' cs' cap' l'->cF (.slice (mc g') l'.length cap') m'.w):bQ P o a m.w cF:=
 Ub hT hR hx hK q hS hk hE.2 hE.1 hE2 ho hxx hy hb fun m' g' cs' cap' h1 h2 h3 h4=>hp m' g' cs' cap' h1 h2 ⟨h4,h3⟩
end
section
variable {P:Program}{o:Oper}{a:Act}{K:Kt}{B:List Nat}{m0 m:Mem}{L:List b7}{cF:Value->World->Prop}{x y:Operand}{t t2 e:TypeId}{zv:Value}{bytes:Nat}{g:Option Nat}{cs:Array Value}{ad:Option Addr}{cap off n c2:Nat}{T:TypeId}{l x2:List UInt8}{a2:Option Addr}
theorem Vf{α:Type}{l x:List α}{o:Nat}(h:o+x.length<=l.length)(j:Nat):(LC l o x)[j]?=if o<=j/\j<o+x.length then x[j-o]? else l[j]?:=by
 have hl:(l.take o).length=o:=by simp;omega
 unfold LC
 rw[bH (l:=x) (by omega)]
 by_cases h1:j<o
 . rw[if_neg (by omega),List.getElem?_append_left (by omega),List.getElem?_take,if_pos h1]
 . rw[List.getElem?_append_right (by omega),hl]
   by_cases h2:j<o+x.length
   . rw[if_pos ⟨by omega,h2⟩,List.getElem?_append_left (by omega)]
   . rw[if_neg (by omega),List.getElem?_append_right (by omega),List.getElem?_drop,show o+x.length+(j-o-x.length)=j by omega]
theorem FO:∀ l:List UInt8,(l.map fun u=>[U8 u]).flatten=l.map U8
 | []=>rfl
 | u::l=>by rw[aP,List.flatten_cons,FO l];rfl
theorem jJ.Si(h:jJ yI m 1 g cs ad cap l):0<cap->∃ b o,g=some b/\ad=some ⟨b,o,none⟩/\(∀ j u,l[j]?=some u->cs[o+j]?=some (U8 u))/\o+cap<=cs.size:=by
 intro hc
 obtain⟨css,h1,h2,_,_,_,h6⟩:=h
 obtain⟨b,o,hg,ha,h7,hrm⟩:=h6 hc
 refine⟨b,o,hg,ha,fun j u hu=>h7 j _ ?_,by simpa using hrm⟩
 have hj:=(List.getElem?_eq_some_iff.1 hu).1
 have hcj:css[j]?=some (css[j]'(by omega)):=List.getElem?_eq_getElem _
 have e:css[j]'(by omega)=[U8 u]:=(h2 j u _ hu hcj).2
 rw[e]at hcj
 have:=n4 1 css (fun i c hc=>by
  have hi:=(List.getElem?_eq_some_iff.1 hc).1
  exact(h2 i (l[i]'(by omega)) c (List.getElem?_eq_getElem _) hc).1) j 0 _ _ hcj rfl
 simpa using this
theorem jJ.ofBytes{b ofs:Nat}(hl:l.length<=cap)(hm:cap<=maxLen)(h:∀ j u,l[j]?=some u->cs[ofs+j]?=some (U8 u))(hrm:ofs+cap<=cs.size):jJ yI m 1 (some b) cs (some ⟨b,ofs,none⟩) cap l:=by
 refine⟨l.map fun u=>[U8 u],by simp,fun i u c hu hc=>?_,hl,hm,(fun h=>by cases h),fun _=>⟨b,ofs,rfl,rfl,fun j v hv=>?_,by simpa using hrm⟩⟩
 . rw[List.getElem?_map,hu]at hc
   cases hc
   exact⟨rfl,rfl⟩
 . rw[FO,List.getElem?_map]at hv
   cases hu:l[j]? with
   | none=>rw[hu]at hv;cases hv
   | some u=>rw[hu]at hv;cases hv;exact h j u hu
theorem Wq(hT:gv P t e zv 1 bytes)(hK:Ke a K)(k:Nat)(hS:St B m0 m L)(hk:L[k]?=some (.arr g cs T))(hA:jJ yI m 1 g cs ad cap l)(hfit:off+n<=l.length)
 (hsrc:∀ q,q<=x2.length->(Builtin.firstCells 1 q (.slice a2 x2.length c2)).run P m.w= .ok ((x2.take q).map U8).toArray m.w)
 (ho:o.op= .call ⟨.builtin .copy,#[x,y],#[t,t2]⟩) (hx:nt K x=some (.slice (iX ad cap off 1) n (cap-off))) (hy:nt K y=some (.slice a2 x2.length c2))
 (hp:∀ m' cs',Le m m'->St B m0 m' (.arr g cs' T::L.eraseIdx k)->jJ yI m' 1 g cs' ad cap (LC l off (x2.take n))->cs'.size=cs.size->cF (.int .i64 (mA x2.length n)) m'.w):bQ P o a m.w cF:=by
 have hq:(mA (x2.length:Int) (n:Int))=((Nat.min x2.length n:Nat):Int):=by
  unfold mA
  rcases Nat.lt_or_ge n x2.length with h|h
  . rw[if_pos (by omega),show Nat.min x2.length n=n from Nat.min_eq_right (by omega)]
  . rw[if_neg (by omega),show Nat.min x2.length n=x2.length from Nat.min_eq_left h]
 have hle:Nat.min x2.length n<=x2.length:=Nat.min_le_left _ _
 have hle2:Nat.min x2.length n<=n:=Nat.min_le_right _ _
 have hf:=hsrc (Nat.min x2.length n) hle
 have htk:x2.take (Nat.min x2.length n)=x2.take n:=by
  rcases Nat.lt_or_ge n x2.length with h|h
  . rw[show Nat.min x2.length n=n from Nat.min_eq_right (by omega)]
  . rw[show Nat.min x2.length n=x2.length from Nat.min_eq_left h,bD,bH h]
 rw[htk]at hf
 have hlen:((x2.take n).map U8).length=Nat.min x2.length n:=by simp[Nat.min_comm]
 rw[hq]at hp
 by_cases hz:(x2.take n)=[]
 . have hrun:(Builtin.copy_ #[t,t2] o.type #[.slice (iX ad cap off 1) n (cap-off), .slice a2 x2.length c2]).run P m.w= .ok (.int .i64 (Nat.min x2.length n:Nat)) m.w:=by
    rw[hz]at hf
    cases hc:iX ad cap off 1<;>simp[Builtin.copy_,run_underlying hT.sG,Builtin.lenOf,sn hT,hf,goInt,storeCells]
   unfold bQ execOp
   simp only[ho,resolve,invoke,builtin,Sem.run_bind,Sem.run_pure,Result.andThen_ok,bq,aP,bG,hK.ev hx,hK.ev hy,hrun]
   refine hp m cs (Le.refl m) (hS.front k hk) ?_ rfl
   rw[hz]
   have:LC l off ([]:List UInt8)=l:=by unfold LC;simp
   rw[this];exact hA
 . have hn0:0<(x2.take n).length:=List.length_pos_iff.2 hz
   have hlen2:(x2.take n).length<=n:=by simp;omega
   have h63:=hA.xP
   obtain⟨b,ofs,rfl,rfl,hcell,hrm⟩:=hA.Si (by omega)
   have hsz:ofs+l.length<=cs.size:=by
    have:=hcell (l.length-1) (l[l.length-1]'(by omega)) (List.getElem?_eq_getElem _)
    have:=(Array.getElem?_eq_some_iff.1 this).1
    omega
   have hcut:iX (some (⟨b,ofs,none⟩:Addr)) cap off 1=some ⟨b,ofs+off,none⟩:=by
    unfold iX
    rw[if_neg (by omega),Nat.mul_one,ba,Addr.add_mid]
   rw[hcut]at hx
   have hS0:=hS.front k hk
   have hS1:=hS0.toBox
   have hb:=hS1.E5 0 rfl
   have hst:=run_storeCells_at P b (ofs+off) T ((x2.take n).map U8) 0 cs m.w hb (by rw[aI];omega) (fun u hu=>by
    obtain⟨c,_,rfl⟩:=List.mem_map.1 hu;rfl)
   simp only[Nat.add_zero]at hst
   have hput:=oW cs (ofs+off) ((x2.take n).map U8) (by rw[aI];omega)
   have hpsz:(putAt cs (ofs+off) ((x2.take n).map U8)).size=cs.size:=by
    unfold putAt;rw[List.size_toArray];simp only[aq,aM,bj,Array.length_toList,aI];simp only[aM]at hlen2;omega
   have hrun:(Builtin.copy_ #[t,t2] o.type #[.slice (some ⟨b,ofs+off,none⟩) n (cap-off), .slice a2 x2.length c2]).run P m.w= .ok (.int .i64 (Nat.min x2.length n:Nat)) (m.w.setRow b (putAt cs (ofs+off) ((x2.take n).map U8))):=by
    generalize hxs:(x2.take n).map U8=xs at*
    simp[Builtin.copy_,run_underlying hT.sG,Builtin.lenOf,sn hT,hf,hst,putAt,goInt]
   generalize hcs':putAt cs (ofs+off) ((x2.take n).map U8)=cs' at*
   have hw:m.w.grownBy (m.w.setRow b cs') (some b):=⟨rfl,rfl,rfl,by simp,fun k' _ hk'=>setRow_other m.w b k' _ (fun e=>hk' (by rw[e]))⟩
   have hS2:=hS1.write hw (by simp) (setRow_heap m.w b cs _ T _ hb)
   have hr:=(St.refl hS1.ow).write hw (by simp) (setRow_heap m.w b cs _ T _ hb)
   unfold bQ execOp
   simp only[ho,resolve,invoke,builtin,Sem.run_bind,Sem.run_pure,Result.andThen_ok,bq,aP,bG,hK.ev hx,hK.ev hy,hrun]
   refine hp ⟨_,m.ok⟩ cs' hr.le hS2.toArr ?_ hpsz
   have hcl:(LC l off (x2.take n)).length=l.length:=Ci (by omega)
   obtain⟨_,_,_,h3,h4,_⟩:=hA
   refine jJ.ofBytes (by rw[hcl];exact h3) h4 (fun j u hu=>?_) (by rw[hpsz];exact hrm)
   rw[Vf (by omega)]at hu
   rw[hput,aI]
   by_cases hj:off<=j/\j<off+(x2.take n).length
   . rw[if_pos hj]at hu
     rw[if_pos ⟨by omega,by omega⟩,List.getElem?_map,show ofs+j-(ofs+off)=j-off by omega,hu];rfl
   . rw[if_neg hj]at hu
     rw[if_neg (by omega)];exact hcell j u hu
end
section
variable {α:Type}{R:Mem->α->List Value->Prop}{sz:Nat}{P:Program}{o:Oper}{a:Act}{K:Kt}{B:List Nat}{m0 m:Mem}{L:List b7}{cF:Value->World->Prop}{x:Operand}{t e:TypeId}{zv:Value}{bytes:Nat}{g:Option Nat}{cs:Array Value}{ad:Option Addr}{cap off n:Nat}{T:TypeId}{l:List α}{z:α}
theorem IU{β:Type}(c:List β):∀ (n j:Nat),(List.replicate n c).flatten[j]?=if j<n*c.length then c[j % c.length]? else none
 | 0,j=>by simp
 | n+1,j=>by
   rw[List.replicate_succ,List.flatten_cons]
   by_cases h:j<c.length
   . rw[List.getElem?_append_left h,Nat.mod_eq_of_lt h,if_pos (by rw[Nat.succ_mul];omega)]
   . rw[List.getElem?_append_right (by omega),IU c n,Nat.succ_mul]
     by_cases h2:j<n*c.length+c.length
     . rw[if_pos (by omega),if_pos h2,Nat.mod_eq_sub_mod (a:=j) (by omega)]
     . rw[if_neg (by omega),if_neg h2]
theorem Hw{β:Type}{sz:Nat}{c:List β}(h:c.length=sz)(n:Nat):∀ (i:Nat) (d:List β),(List.replicate n c)[i]?=some d->d.length=sz:=fun i d hd=>by
 rw[List.getElem?_replicate]at hd
 split at hd
 . cases hd;exact h
 . cases hd
theorem Ry{β:Type}{l:List β}{n i:Nat}{d:β}(h:(l.take n)[i]?=some d):l[i]?=some d:=by
 rw[List.getElem?_take]at h
 split at h
 . exact h
 . cases h
theorem Oz(c:Array Value)(n:Nat):(Builtin.zeroCells c n).toList=(List.replicate n c.toList).flatten:=by
 refine List.ext_getElem? fun j=>?_
 rw[IU,Array.length_toList]
 unfold Builtin.zeroCells
 rw[Array.toList_map,List.getElem?_map,Array.toList_range]
 by_cases h:j<n*c.size
 . rw[if_pos h,List.getElem?_range h,ba,Array.getElem?_toList]
   have hp:0<c.size:=Nat.pos_of_ne_zero fun e=>by rw[e,Nat.mul_zero]at h;omega
   have hm:=Nat.mod_lt j hp
   rw[getElem?_pos c _ hm,getElem!_pos c _ hm]
 . rw[if_neg h,List.getElem?_eq_none (by simp;omega)];rfl
theorem jJ.aaB(hA:jJ R m sz g cs ad cap l){m':Mem}(hmo:∀ x c,R m x c->R m' x c){c:List Value}(hc:c.length=sz)(hz:R m' z c){b ofs:Nat}(hg:g=some b)(had:ad=some ⟨b,ofs,none⟩)(hfit:off+n<=l.length){cs':Array Value}(hcs:∀ q,cs'[q]?=if ofs+off*sz<=q/\q<ofs+off*sz+n*sz then(List.replicate n c).flatten[q-(ofs+off*sz)]? else cs[q]?):
 jJ R m' sz g cs' ad cap (B2 l off n z):=by
 unfold B2
 obtain⟨css,h1,h2,h3,h4,h5,h6⟩:=hA
 have hcl:=A1 h1 h2
 have e1:(css.take off).length=off:=by simp;omega
 have e2:(l.take off).length=off:=by simp;omega
 refine⟨css.take off++(List.replicate n c++css.drop (off+n)),by simp;omega,fun i x d hx hd=>?_,by simp;omega,h4,h5,fun hp=>?_⟩
 . by_cases c1:i<off
   . rw[List.getElem?_append_left (by omega),List.getElem?_take,if_pos c1]at hx hd
     exact⟨(h2 i x d hx hd).1,hmo _ _ (h2 i x d hx hd).2⟩
   . rw[List.getElem?_append_right (by omega),e1]at hd
     rw[List.getElem?_append_right (by omega),e2]at hx
     by_cases c2:i-off<n
     . rw[List.getElem?_append_left (by simpa using c2),List.getElem?_replicate,if_pos c2]at hx hd
       cases hx;cases hd;exact⟨hc,hz⟩
     . rw[List.getElem?_append_right (by simp;omega),bf,List.getElem?_drop]at hx hd
       exact⟨(h2 _ x d hx hd).1,hmo _ _ (h2 _ x d hx hd).2⟩
 . obtain⟨b',o',hg',ha',hcc,hrm⟩:=h6 hp
   rw[hg]at hg';cases hg'
   rw[had]at ha';cases ha'
   refine⟨b,ofs,hg,had,fun j v hv=>?_,Nat.le_trans hrm (size_le fun i hi=>?_)⟩
   have f1:(css.take off).flatten.length=off*sz:=by
    rw[iP sz _ fun k d hk=>hcl k d (Ry hk),e1]
   have f2:(List.replicate n c).flatten.length=n*sz:=by
    rw[iP sz _ (Hw hc n),bf]
   rw[bp,bp]at hv
   rw[hcs]
   by_cases c1:j<off*sz
   . rw[List.getElem?_append_left (by omega),<- vg sz css off hcl,List.getElem?_take,if_pos c1]at hv
     rw[if_neg (by omega)];exact hcc j v hv
   . rw[List.getElem?_append_right (by omega),f1]at hv
     by_cases c2:j-off*sz<n*sz
     . rw[List.getElem?_append_left (by omega)]at hv
       rw[if_pos ⟨by omega,by omega⟩,show ofs+j-(ofs+off*sz)=j-off*sz by omega];exact hv
     . rw[List.getElem?_append_right (by omega),f2,<- vf sz css (off+n) hcl,List.getElem?_drop]at hv
       rw[if_neg (by omega)]
       exact hcc j v (by rw[show(off+n)*sz+(j-off*sz-n*sz)=j by rw[aZ];omega]at hv;exact hv)
   rw[hcs]
   split
   . rename_i hq
     rw[List.getElem?_eq_getElem (by rw[iP sz _ (Hw hc n),bf];omega)];exact Option.some_ne_none _
   . rw[Array.getElem?_eq_getElem hi];exact Option.some_ne_none _
theorem Ug(hR:wM R sz)(hT:gv P t e zv sz bytes)(hK:Ke a K)(k:Nat)(hS:St B m0 m L)(hk:L[k]?=some (.arr g cs T))(hA:jJ R m sz g cs ad cap l)(hfit:off+n<=l.length)(hz:R m z zv.cells.toList)(h1:∀ u∈zv.cells.toList,u.oneCell'=true)
 (ho:o.op= .call ⟨.builtin .clear,#[x],#[t]⟩) (hx:nt K x=some (.slice (iX ad cap off sz) n (cap-off)))
 (hp:∀ m' cs',Le m m'->St B m0 m' (.arr g cs' T::L.eraseIdx k)->jJ R m' sz g cs' ad cap (B2 l off n z)->cs'.size=cs.size->cF (.tuple #[]) m'.w):bQ P o a m.w cF:=by
 by_cases hz0:n=0
 . subst hz0
   have hrun:(Builtin.clear_ #[t] o.type #[.slice (iX ad cap off sz) 0 (cap-off)]).run P m.w= .ok (.tuple #[]) m.w:=by
    cases hc:iX ad cap off sz<;>simp[Builtin.clear_,run_underlying hT.sG]
   unfold bQ execOp
   simp only[ho,resolve,invoke,builtin,Sem.run_bind,Sem.run_pure,Result.andThen_ok,bq,aP,bG,hK.ev hx,hrun]
   refine hp m cs (Le.refl m) (hS.front k hk) ?_ rfl
   simpa[B2]using hA
 . have hcap:=hA.xP
   have hpos:=hR.pos
   have hA0:=hA
   obtain⟨css,q1,q2,q3,q4,q5,q6⟩:=hA0
   have hcl:=A1 q1 q2
   obtain⟨b,ofs,hg,had,hcell,_⟩:=q6 (by omega)
   have hfl:css.flatten.length=l.length*sz:=by rw[iP sz css hcl,q1]
   have hlp:0<l.length*sz:=Nat.mul_pos (by omega) hpos
   have hsz:ofs+l.length*sz<=cs.size:=by
    have:=hcell (l.length*sz-1) (css.flatten[l.length*sz-1]'(by omega)) (List.getElem?_eq_getElem _)
    have:=(Array.getElem?_eq_some_iff.1 this).1
    omega
   have hcut:iX ad cap off sz=some ⟨b,ofs+off*sz,none⟩:=by
    unfold iX
    rw[if_neg (by omega),had,ba,Addr.add_mid]
   rw[hcut]at hx
   have hS0:=hS.front k hk
   rw[hg]at hS0
   have hS1:=hS0.toBox
   have hb:=hS1.E5 0 rfl
   have hzl:zv.cells.toList.length=sz:=by rw[Array.length_toList];exact hT.zs
   have hrl:(List.replicate n zv.cells.toList).flatten.length=n*sz:=by
    rw[iP sz _ (Hw hzl n),bf]
   have hle2:(off+n)*sz<=l.length*sz:=Nat.mul_le_mul_right _ hfit
   rw[aZ]at hle2
   have hst:=run_storeCells_at P b (ofs+off*sz) T (List.replicate n zv.cells.toList).flatten 0 cs m.w hb (by rw[hrl];omega) (fun u hu=>by
    obtain⟨c,hc,hu⟩:=List.mem_flatten.1 hu
    rw[List.eq_of_mem_replicate hc]at hu;exact h1 u hu)
   simp only[Nat.add_zero]at hst
   have hput:=oW cs (ofs+off*sz) (List.replicate n zv.cells.toList).flatten (by rw[hrl];omega)
   have hpsz:(putAt cs (ofs+off*sz) (List.replicate n zv.cells.toList).flatten).size=cs.size:=by
    unfold putAt;rw[List.size_toArray];simp only[aq,aM,bj,Array.length_toList,hrl];omega
   have hzr:(zeroValue e).run P m.w= .ok zv m.w:=by
    obtain⟨i,h1,h2,h3,h4⟩:=info_parts hT.info
    simp[zeroValue,typeInfo,h1,h2]
   have hrun:(Builtin.clear_ #[t] o.type #[.slice (some ⟨b,ofs+off*sz,none⟩) n (cap-off)]).run P m.w= .ok (.tuple #[]) (m.w.setRow b (putAt cs (ofs+off*sz) (List.replicate n zv.cells.toList).flatten)):=by
    have hzf:=Oz zv.cells n
    generalize (List.replicate n zv.cells.toList).flatten=xs at*
    obtain⟨n',rfl⟩:∃ n',n=n'+1:=⟨n-1,by omega⟩
    simp[Builtin.clear_,run_underlying hT.sG,hzr,hzf,hst,putAt]
   generalize hcs':putAt cs (ofs+off*sz) (List.replicate n zv.cells.toList).flatten=cs' at*
   have hw:m.w.grownBy (m.w.setRow b cs') (some b):=⟨rfl,rfl,rfl,by simp,fun k' _ hk'=>setRow_other m.w b k' _ (fun e=>hk' (by rw[e]))⟩
   have hS2:=hS1.write hw (by simp) (setRow_heap m.w b cs _ T _ hb)
   have hr:=(St.refl hS1.ow).write hw (by simp) (setRow_heap m.w b cs _ T _ hb)
   unfold bQ execOp
   simp only[ho,resolve,invoke,builtin,Sem.run_bind,Sem.run_pure,Result.andThen_ok,bq,aP,bG,hK.ev hx,hrun]
   refine hp ⟨_,m.ok⟩ cs' hr.le (by rw[hg];exact hS2.toArr) ?_ hpsz
   refine hA.aaB (fun _ _ hh=>hR.mono hh hr.le) hzl (hR.mono hz hr.le) hg had hfit fun q=>?_
   rw[hput,hrl]
end
section
variable {P:Program}{B:List Nat}{m0 m:Mem}{L:List b7}{g:Option Nat}{cs:Array Value}{ad:Option Addr}{cap off n c2:Nat}{T:TypeId}{l:List UInt8}{a2:Option Addr}
theorem PL(hE:gB yI m 1 a2 c2 l)(q:Nat)(hq:q<=l.length):(Builtin.firstCells 1 q (.slice a2 l.length c2)).run P m.w= .ok ((l.take q).map U8).toArray m.w:=by
 have hsl:=hE.W4
 cases a2 with
 | none=>
   have:l=[]:=hE.Dr
   subst this
   simp[Builtin.firstCells]
 | some ad=>
   exact run_firstCells_some (P:=P) m.w 1 q ad l.length c2 ((l.take q).map U8) (by rw[aI,aM];omega) (fun j u hu=>by
    have hu':(l.map U8)[j]?=some u:=by
     rw[List.getElem?_map,List.getElem?_take]at hu
     rw[List.getElem?_map]
     split at hu
     . exact hu
     . cases hu
    obtain⟨b',o',ha,_,hc⟩:=hsl.2.2.2.2 j u hu'
    cases ha;rw[Addr.add_mid];exact hc)
theorem Uo(k:Nat)(hS:St B m0 m L)(hk:L[k]?=some (.arr g cs T))(hA:jJ yI m 1 g cs ad cap l)(hfit:off+n<=l.length)(q:Nat)(hq:q<=n):(Builtin.firstCells 1 q (.slice (iX ad cap off 1) n c2)).run P m.w= .ok ((((l.drop off).take n).take q).map U8).toArray m.w:=by
 by_cases hz:q=0
 . subst hz
   cases iX ad cap off 1 with
   | none=>simp[Builtin.firstCells]
   | some z=>exact run_firstCells_some (P:=P) m.w 1 0 z n c2 [] rfl (fun j u hu=>by simp at hu)
 . have h63:=hA.xP
   obtain⟨b,ofs,rfl,rfl,hcell,hrm⟩:=hA.Si (by omega)
   have hcut:iX (some (⟨b,ofs,none⟩:Addr)) cap off 1=some ⟨b,ofs+off,none⟩:=by
    unfold iX
    rw[if_neg (by omega),Nat.mul_one,ba,Addr.add_mid]
   rw[hcut]
   have hb:=(hS.front k hk).toBox.E5 0 rfl
   refine run_firstCells_some (P:=P) m.w 1 q ⟨b,ofs+off,none⟩ n c2 _ (by simp only[aI,aM,bj];omega) (fun j u hu=>?_)
   rw[List.getElem?_map]at hu
   rw[Addr.add_mid,cell_of_row _ _ _ _ _ _ hb]
   cases hj:(((l.drop off).take n).take q)[j]? with
   | none=>rw[hj]at hu;cases hu
   | some v=>
     rw[hj]at hu;cases hu
     rw[List.getElem?_take]at hj
     split at hj
     . rw[List.getElem?_take]at hj
       split at hj
       . rw[List.getElem?_drop]at hj
         have:=hcell _ _ hj
         rw[Nat.add_assoc];exact this
       . cases hj
     . cases hj
end
end
end Go.Proofs.YtekpafdhgkocaaaGreat
