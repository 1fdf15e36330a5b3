/- Part of the proof. -/
import Derived.Test.YtjfkdglgecgjfaaGreatZEvM
import Derived.Great.BuildSlice
namespace Go.Proofs.YtjfkdglgecgjfaaGreat
section
open IntKind(i64)
open Go.RowKit G
namespace E
variable {S:Nat->Type}{tb:Tb S}{K:ep tb}{P:Program}{o:Oper}{xs:List (AV S)}{ob:List (Nat×Nat×AO S)}{ct:Nat}{γ:Type}{k:ia S->Option γ}{r:γ}{tt:TypeId->Option (TI S)}{g:GG S}{m:Mem}{fa:FA S}
theorem Zu(hT:dx P K tt){t:TypeId}{x:Operand}(ho:o.op=.call ⟨.builtin .len,#[x],#[t]⟩){v:CV S}(h:Qg tt t v ob k=some r):dT P K o [.one v] ob ct k r:=by
 have hox:o.op.operands.toList=[x]:=by rw[ho];rfl
 unfold Qg at h;obtain⟨ti,hti,h'⟩:=aa.1 h;clear h;have h:=h';clear h';have htd:=(hT.ty t ti hti).td;have run:∀{a:Act} {w:World} {e:TypeId} {ad:Option Addr} {n c:Nat},P.underlying t=some (.slice e)->a.eval x=.slice ad n c->(execOp a.eval o).run P w=.ok (.value (.int .i64 (n:Int))) w:=fun{a w e ad n c} hu hx=>by
  simp[execOp,ho,resolve,invoke,builtin,hx,W5 (P:=P) (w:=w) (ty:=o.type) hu]
 split at h
 . rename_i e hd;rw[hd]at htd;split at h
   . refine lY (t:=t) hox h fun g a m hv=>?_
     simp only[bM]at hv;obtain⟨ad,c,hx,_⟩:=hv;exact bI.val (run htd (by simpa using hx)) ⟨rfl,by simp only[val,bP,bM]⟩
   . refine lY (t:=t) hox h fun g a m hv=>?_
     simp only[bM]at hv;obtain⟨ad,hx,_⟩:=hv;exact bI.val (run htd (by simpa using hx)) ⟨rfl,by simp only[val,bP,bM]⟩
   . refine lY (t:=t) hox h fun g a m hv=>?_
     simp only[bM]at hv;obtain⟨gh,_,_,_,hx,_⟩:=hv;exact bI.val (run htd (by simpa using hx)) ⟨rfl,by simp only[val,bP,bM]⟩
   . refine lY (t:=t) hox h fun g a m hv=>?_
     simp only[bM]at hv;exact bI.val (run htd (by simpa using hv)) ⟨rfl,by simp only[val,bP,bM];rfl⟩
   . rename_i q;obtain⟨⟨ver,ao⟩,hq,h'⟩:=aa.1 h;clear h;have h:=h';clear h';split at h
     . rename_i e' c f l hao;simp only at hao;subst hao;refine kT hox hq h fun g a m en hv hoo hob hO=>?_
       simp only[bM]at hv;obtain⟨gh,k1,k2⟩:=hv;obtain⟨gh',cs,j1,j2,_⟩:=hob;rw[k1]at j1;have e1:=ax j1;subst e1;exact⟨_,run htd (by simpa using k2),by simp only[bP,bM,j2]⟩
     . cases h
   . cases h
 . rename_i hd;rw[hd]at htd;split at h
   . rename_i l;refine lY (t:=t) hox h fun g a m hv=>?_
     simp only[bM]at hv;have hx:a.eval x=.string (Proofs.YtjfkdglgecgjfaaGreat.str l):=by simpa using hv
     refine bI.val (v:=.int .i64 (l.length:Int)) ?_ ⟨rfl,by simp only[val,bP,bM]⟩;have hu:P.underlying t=some .string:=htd;have hl:(Builtin.len_ #[t] o.type #[.string (Proofs.YtjfkdglgecgjfaaGreat.str l)]).run P m.w=.ok (.int .i64 (l.length:Int)) m.w:=by
      simp only[Builtin.len_,List.getElem?_toArray,List.getElem?_cons_zero,Sem.run_bind,run_underlying hu,Result.andThen_ok,Sem.run_pure,goInt];rfl
     unfold execOp;simp only[ho,resolve,invoke,builtin,Sem.run_bind,Sem.run_pure,Result.andThen_ok,aX,aF,bp,hx,hl]
   . cases h
 . rename_i kt et hd;rw[hd]at htd;split at h
   . rename_i q;obtain⟨⟨ver,ao⟩,hq,h'⟩:=aa.1 h;clear h;have h:=h';clear h';split at h
     . rename_i t' kc vc l hole hao;simp only at hao;subst hao;refine kT hox hq h fun g a m en hv hoo hob hO=>?_
       simp only[bM]at hv;obtain⟨gh,b,k1,k2,k3⟩:=hv;obtain⟨gh',b',es,clock,j1,j2,rfl,j4,_⟩:=hob;rw[k1]at j1;have e1:=ax j1;subst e1;rw[k2]at j2;have e2:=ax j2;subst e2;have hb:m.w.heap[b]?=some (.map es clock):=hO.ok _ aq;have hl:(es.size:Int)=(l.length:Int):=by have h0:es.size=l.length:=(by simpa using j4.vw.len);rw[h0]
       have hx:a.eval x=.map (some b):=by simpa using k3
       refine⟨.int .i64 (l.length:Int),?_,by simp only[bP,bM]⟩;have hu:P.underlying t=some (.map kt et):=htd;have hlen:(Builtin.len_ #[t] o.type #[.map (some b)]).run P m.w=.ok (.int .i64 (l.length:Int)) m.w:=by
        simp[Builtin.len_,run_underlying hu,MapKept.run_getObj_map hb,goInt,hl]
       simp[execOp,ho,resolve,invoke,builtin,hx,hlen]
     . cases h
   . cases h
 . cases h
theorem NG(hf:iE g ct){e:TypeId}{c:Co}{Lm:List bR}{g':Option Nat}{cap:Nat}{l:List (T S c)}{m':Mem}(hle:Le m m')(hS:St (bK Lm) m m' [rowOf e (zK K c) g' cap l])(hE:dM (RK K c) m' (zK K c) (fP g') cap l){rm:List Nat}:
 AA K g m ct [] Lm {v:=.one (.rw (ct+1) c l),rm:=rm,add:=[(ct+1,.row e c)]} (.slice (fP g') l.length cap) m'.w:=by
 have hge:=GG.gw (x:=⟨g',none,cap,l.length,default⟩) (hf (ct+1) (by omega) (by omega)).1
 refine⟨m',g.jm (ct+1) ⟨g',none,cap,l.length,default⟩,[rowOf e (zK K c) g' cap l],rfl,by simpa using hS,hge,rfl,rfl,GG.eU,⟨_,[],rfl,⟨_,GG.cM,rfl⟩,rfl⟩,?_⟩
 simp only[bP,bM]
 exact⟨_,[],fP g',GG.cM,rfl,hE,hE,rfl,fun _=>(gR _ _ _).symm⟩
theorem I4(hf:iE g ct){e:TypeId}{c:Co}{Lm:List bR}{g':Option Nat}{cap:Nat}{l0 l:List (T S c)}{ad:Option Addr}{m':Mem}(hle:Le m m')(hS:St (bK Lm) m m' [rowOf e (zK K c) g' cap (l0++l)])(hE:dM (RK K c) m' (zK K c) (fP g') cap (l0++l))(hE1:dM (RK K c) m' (zK K c) ad (cap-l0.length) l)(had:l0.length<cap->ad=dG (fP g') cap l0.length (zK K c)){rm:List Nat}:
 AA K g m ct [] Lm {v:=.one (.rw (ct+1) c l),rm:=rm,add:=[(ct+1,.row e c)]} (.slice ad l.length (cap-l0.length)) m'.w:=by
 have hge:=GG.gw (x:=⟨g',none,cap,(l0++l).length,default⟩) (hf (ct+1) (by omega) (by omega)).1
 refine⟨m',g.jm (ct+1) ⟨g',none,cap,(l0++l).length,default⟩,[rowOf e (zK K c) g' cap (l0++l)],rfl,by simpa using hS,hge,rfl,rfl,GG.eU,⟨_,[],rfl,⟨_,GG.cM,rfl⟩,rfl⟩,?_⟩
 simp only[bP,bM]
 exact⟨_,l0,ad,GG.cM,rfl,hE1,hE,rfl,had⟩
theorem PX(hf:iE g ct){e:TypeId}{c:Co}{Lr Lm:List bR}{g':Option Nat}{cap:Nat}{l0 l:List (T S c)}{ad:Option Addr}{m':Mem}(hO:Ow m (Lr++Lm))(hS:St (bK Lm) m m' [rowOf e (zK K c) g' cap (l0++l)])(hE:dM (RK K c) m' (zK K c) (fP g') cap (l0++l))(hE1:dM (RK K c) m' (zK K c) ad (cap-l0.length) l)(had:l0.length<cap->ad=dG (fP g') cap l0.length (zK K c)){rd rm:List Nat}:
 AA K g m ct Lr Lm {v:=.one (.rw (ct+1) c l),rd:=rd,rm:=rm,add:=[(ct+1,.row e c)]} (.slice ad l.length (cap-l0.length)) m'.w:=by
 have hge:=GG.gw (x:=⟨g',none,cap,(l0++l).length,default⟩) (hf (ct+1) (by omega) (by omega)).1
 refine⟨m',g.jm (ct+1) ⟨g',none,cap,(l0++l).length,default⟩,[rowOf e (zK K c) g' cap (l0++l)],rfl,?_,hge,rfl,rfl,GG.eU,⟨_,[],rfl,⟨_,GG.cM,rfl⟩,rfl⟩,?_⟩
 . have h0:St (bK (Lr++Lm)) m m (Lm++Lr):=(St.refl hO).perm aK
   exact(h0.frame hS).perm aK
 . simp only[bP,bM]
   exact⟨_,l0,ad,GG.cM,rfl,hE1,hE,rfl,had⟩
theorem BK(hf:iE g ct){e:TypeId}{c:Co}{Lm:List bR}{g':Option Nat}{cs:Array Value}{cap:Nat}{l:List (T S c)}{m':Mem}(hle:Le m m')(hS:St (bK Lm) m m' [bR.arr g' cs e])(hE:vH (RK K c) m' (zK K c) g' cs cap l){rm:List Nat}:
 AA K g m ct [] Lm {v:=.one (.aw (ct+1)),rm:=rm,add:=[(ct+1,.arr e c true l)]} (.slice (fP g') l.length cap) m'.w:=by
 have hge:=GG.gw (x:=⟨g',fP g',cap,l.length,default⟩) (hf (ct+1) (by omega) (by omega)).1
 refine⟨m',g.jm (ct+1) ⟨g',fP g',cap,l.length,default⟩,[bR.arr g' cs e],rfl,by simpa using hS,hge,rfl,rfl,GG.eU,⟨_,[],rfl,⟨_,cs,GG.cM,rfl,rfl,hE.1,fun _=>⟨rfl,hE⟩⟩,rfl⟩,?_⟩
 simp only[bP,bM]
 exact⟨_,GG.cM,rfl⟩
theorem sv{t e ty:TypeId}{z:Value}{sz bytes:Nat}{w:World}(hT:dE P t e z sz bytes)(ad:Option Addr)(n cap:Nat)(a2:Option Addr)(cap2:Nat)(h:n<=cap):
 (Builtin.append_ #[t,t] ty #[.slice ad n cap,.slice a2 0 cap2]).run P w=.ok (.slice ad n cap) w:=by
 obtain⟨i,hi,hz,hs,hb⟩:=info_parts hT.info
 cases ad<;>cases a2<;>simp[Builtin.append_,run_underlying hT.gH,sizeOf,typeInfo,hi,Builtin.lenOf,Builtin.firstCells,loadCells,loadCellsFrom,storeCells,h]
theorem Zt(hT:dx P K tt){t:TypeId}{x:Operand}(ho:o.op=.call ⟨.builtin .cap,#[x],#[t]⟩){ec:TypeId×Co}(hec:gU tt t=some ec)(h:k (val (.int .i64 0))=some r):dT P K o [.one .fg] ob ct k r:=by
 have hox:o.op.operands.toList=[x]:=by rw[ho];rfl
 obtain⟨hu,ei,hei,hE,hb⟩:=kh hT hec;refine lY (t:=t) hox h fun g a m hv=>?_
 simp only[bM]at hv;have hx:a.eval x=.slice none 0 0:=by simpa using hv
 refine bI.val (v:=.int .i64 0) ?_ ⟨rfl,by simp only[val,bP,bM]⟩;have hl:(Builtin.cap_ #[t] o.type #[.slice none 0 0]).run P m.w=.ok (.int .i64 0) m.w:=by
  simp[Builtin.cap_,run_underlying hu,goInt]
 unfold execOp;simp only[ho,resolve,invoke,builtin,Sem.run_bind,Sem.run_pure,Result.andThen_ok,aX,aF,bp,hx,hl]
theorem zU{t e ty:TypeId}{z:Value}{sz bytes:Nat}{w w':World}(hT:dE P t e z sz bytes){b i n c:Nat}{a2:Option Addr}{k cap2:Nat}{v:Value}(hi:i<c)(hroom:i+n+k<=c)
 (h:(Builtin.append_ #[t,t] ty #[.slice (fP (some b)) (i+n) c,.slice a2 k cap2]).run P w=.ok v w'):
 (Builtin.append_ #[t,t] ty #[.slice (dG (fP (some b)) c i sz) n (c-i),.slice a2 k cap2]).run P w=.ok (.slice (dG (fP (some b)) c i sz) (n+k) (c-i)) w':=by
 obtain⟨inf,hinf,hz,hs,hb⟩:=info_parts hT.info
 have h1:i+n+k<=c:=hroom
 have h2:n+k<=c-i:=by omega
 have hc:dG (fP (some b)) c i sz=some ⟨b,i*sz,none⟩:=by unfold dG;rw[if_neg (by omega)];simp only[fP,ak,Addr.add_mid,aL]
 rw[hc]
 have hA1:(⟨b,0,none⟩:Addr).add ((i+n)*sz)=⟨b,(i+n)*sz,none⟩:=by rw[Addr.add_mid,aL]
 have hA2:(⟨b,i*sz,none⟩:Addr).add (n*sz)=⟨b,(i+n)*sz,none⟩:=by rw[Addr.add_mid,aN]
 simp[Builtin.append_,run_underlying hT.gH,sizeOf,typeInfo,hinf,Builtin.lenOf,h1,h2,hs,fP,hA1,hA2]at h ⊢
 revert h
 generalize (Builtin.firstCells sz k (.slice a2 k cap2)).run P w=r1
 cases r1<;>simp only[Result.andThen]<;>intro h<;>first|(cases h;done)|skip
 rename_i u w1
 revert h
 generalize (storeCells ⟨b,(i+n)*sz,none⟩ u.toList).run P w1=r2
 cases r2<;>intro h<;>first|(cases h;done)|skip
 cases h;rfl
theorem FX{t e:TypeId}{zv:Value}{sz bytes:Nat}{α:Type}{R:Mem->α->List Value->Prop}{x y:Operand}{a:Act}{Kt_:Kt}{m:Mem}{b6:Value->World->Prop}{g:Option Nat}{cap cap2:Nat}{l0 l l2 l':List α}{a2 ad:Option Addr}(hT:dE P t e zv sz bytes)(hR:oY R sz)(hx:app bytes l l2=some l')(hK:Ke a Kt_)
 (hO:Ow m [rowOf e sz g cap (l0++l)]) (hE:dM R m sz (fP g) cap (l0++l)) (hEl:dM R m sz ad (cap-l0.length) l) (had:l0.length<cap->ad=dG (fP g) cap l0.length sz) (hE2:Rc R m sz a2 cap2 l2)
 (ho:o.op=.call ⟨.builtin .append,#[x,y],#[t,t]⟩) (hxx:gV Kt_ x=some (.slice ad l.length (cap-l0.length))) (hy:gV Kt_ y=some (.slice a2 l2.length cap2)) (hb:decide (1<=bytes)=true)
 (hp:∀m' g' cap' l0' ad',Le m m'->St (bK [rowOf e sz g cap (l0++l)]) m m' [rowOf e sz g' cap' (l0'++l')]->dM R m' sz (fP g') cap' (l0'++l')->dM R m' sz ad' (cap'-l0'.length) l'->(l0'.length<cap'->ad'=dG (fP g') cap' l0'.length sz)->b6 (.slice ad' l'.length (cap'-l0'.length)) m'.w):bI P o a m.w b6:=by
 have hcap:(l0++l).length<=cap:=hE.sC.2.2
 rw[ay]at hcap
 obtain⟨hlen,rfl⟩:=nT hx
 by_cases hn:l2=[]
 . subst hn
   have:=sv (P:=P) (ty:=o.type) (w:=m.w) hT ad l.length (cap-l0.length) a2 cap2 (by omega)
   unfold bI execOp
   simp only[ho,resolve,invoke,builtin,Sem.run_bind,Sem.run_pure,Result.andThen_ok,aX,aF,bp,hK.ev hxx,hK.ev hy,List.length_nil,this]
   have:=hp m g cap l0 ad (Le.refl m) (by rw[aW];exact St.refl hO) (by rw[aW];exact hE) (by rw[aW];exact hEl) had
   rwa[aW]at this
 . have hpos:0<l2.length:=List.length_pos_iff.2 hn
   by_cases hroom:l.length+l2.length<=cap-l0.length
   . have hg:∃b,g=some b:=by
      cases g with
      |some b=>exact⟨b,rfl⟩
      |none=>
       obtain⟨css,h1,_⟩:=hE
       have hc0:=h1.2.2.2.1 rfl
       omega
     obtain⟨b,rfl⟩:=hg
     obtain⟨m',r1,r2,r3,r4⟩:=Ci (ty:=o.type) hT hR (St.refl hO) hE hE2 (by rw[ay];omega)
     rw[ay]at r1
     have r5:=zU hT (by omega) (by omega) r1
     rw[<- had (by omega)]at r5
     unfold bI execOp
     simp only[ho,resolve,invoke,builtin,Sem.run_bind,Sem.run_pure,Result.andThen_ok,aX,aF,bp,hK.ev hxx,hK.ev hy,r5]
     have r6:=r4
     rw[az]at r6
     have r7:=r6.from l0.length (by simp)
     rw[List.drop_left,<- had (by omega)]at r7
     have:=hp m' (some b) cap l0 ad r2 (by rw[<- az];exact r3) r6 r7 had
     rwa[ay]at this
   . refine FY hT hR hx hK (St.refl hO).drop hEl hE2 ho hxx hy hb (by omega) fun m' g' cap' hle hS hA=>?_
     exact hp m' g' cap' [] (fP g') hle hS hA hA fun _=>(gR _ _ _).symm
theorem T5{t e:TypeId}{zv:Value}{sz bytes:Nat}{α:Type}{R:Mem->α->List Value->Prop}{x y:Operand}{a:Act}{Kt_:Kt}{m:Mem}{b6:Value->World->Prop}{g:Option Nat}{cap cap2:Nat}{l0 l l2 l':List α}{a2 ad:Option Addr}(hT:dE P t e zv sz bytes)(hR:oY R sz)(hx:app bytes l l2=some l')(hK:Ke a Kt_)
 (hO:Ow m [rowOf e sz g cap (l0++l)]) (hE:dM R m sz (fP g) cap (l0++l)) (hEl:dM R m sz ad (cap-l0.length) l) (had:l0.length<cap->ad=dG (fP g) cap l0.length sz) (hE2:dM R m sz a2 cap2 l2)
 (ho:o.op=.call ⟨.builtin .append,#[x,y],#[t,t]⟩) (hxx:gV Kt_ x=some (.slice ad l.length (cap-l0.length))) (hy:gV Kt_ y=some (.slice a2 l2.length cap2)) (hb:decide (1<=bytes)=true)
 (hp:∀m' g' cap' l0' ad',Le m m'->St (bK [rowOf e sz g cap (l0++l)]) m m' [rowOf e sz g' cap' (l0'++l')]->dM R m' sz (fP g') cap' (l0'++l')->dM R m' sz ad' (cap'-l0'.length) l'->(l0'.length<cap'->ad'=dG (fP g') cap' l0'.length sz)->b6 (.slice ad' l'.length (cap'-l0'.length)) m'.w):bI P o a m.w b6:=
 FX hT hR hx hK hO hE hEl had hE2.src ho hxx hy hb hp
theorem Jh{α:Type}:∀(k:Nat) (u:α),(List.replicate k [u]).flatten=List.replicate k u
 |0,_=>rfl
 |k+1,u=>by rw[List.replicate_succ,List.flatten_cons,Jh k u,List.replicate_succ];rfl
theorem vG{u:Value}(n:Nat):Builtin.zeroCells #[u] n=(List.replicate n u).toArray:=by
 apply Array.ext_getElem?;intro i;simp only[Builtin.zeroCells,List.size_toArray,bw,List.length_nil,aL,Nat.mul_one,Nat.mod_one,Array.getElem?_map,List.getElem?_toArray,List.getElem?_replicate];by_cases h:i<n
 . simp[h]
 . simp[h]
theorem TQ{t tx e ty:TypeId}{zv u:Value}{bytes:Nat}{w:World}{ad:Option Addr}{n cap k:Nat}(hT:dE P t e zv 1 bytes)(htx:P.underlying tx=some (.int .i64))(hzc:zv.cells= #[u])(hk:0<k)(hb0:1<=bytes)(hb:(n+k)*bytes<=140737488355328):
 (∀b i cur,ad=some ⟨b,i,none⟩->n+k<=cap->w.heap[b]?=some (.cells cur e (0,0))->i+n+k<=cur.size->u.oneCell'=true->
  (Builtin.append_ #[t,tx] ty #[.slice ad n cap,.int .i64 (k:Int)]).run P w=.ok (.slice ad (n+k) cap) (w.setRow b (cur.toList.take (i+n)++List.replicate k u++cur.toList.drop (i+n+k)).toArray))/\
 (∀olds:List Value,(Builtin.firstCells 1 n (.slice ad n cap)).run P w.drew=.ok olds.toArray w.drew->cap<n+k->
  (Builtin.append_ #[t,tx] ty #[.slice ad n cap,.int .i64 (k:Int)]).run P w=.ok (.slice (some ⟨w.heap.size,0,none⟩) (n+k) (grownCap w (n+k) cap e)) (w.drew.alloc (.cells ((olds++List.replicate k u).toArray++Builtin.zeroCells zv.cells (grownCap w (n+k) cap e-(n+k))) e))):=by
 obtain⟨i,hi,hz,hs,hby⟩:=info_parts hT.info
 have hnk:n+k<=(n+k)*bytes:=Nat.le_mul_of_pos_right _ hb0
 have hkb:k*bytes<=(n+k)*bytes:=Nat.mul_le_mul_right _ (by omega)
 have hw:i64.wrap (k:Int)=(k:Int):=jQ (by omega) (by omega)
 have h1:¬ ((k:Int)<0):=by omega
 have h2:¬ ((281474976710656:Int)<(k:Int)*(bytes:Int)):=by
  rw[<- Int.natCast_mul];omega
 have h6:¬ k=0:=by omega
 have hzk:=vG (u:=u) k
 constructor
 . rintro b j cur rfl hroom hcur hfit hu
   have hst:=run_storeCells_at P b (j+n) e (List.replicate k u) 0 cur w hcur (by rw[aP];omega) (fun v hv=>by rw[List.eq_of_mem_replicate hv];exact hu)
   simp only[Nat.add_zero,aP]at hst
   simp[Builtin.append_,run_underlying hT.gH,run_underlying htx,sizeOf,typeInfo,zeroValue,hi,hz,hs,hby,asInt,asIntOf,hw,h1,h2,h6,hroom,hzc,hzk,Addr.add_mid,hst]
 . intro olds hold hg
   have hfit:Builtin.nextslicecap (n+k) cap*bytes<=281474976710656:=growslice_fits hg hb
   have h3:¬ (9223372036854775807<(n:Int)+(k:Int)):=by omega
   have h5:¬ (281474976710656<Builtin.nextslicecap (n+k) cap*bytes):=by omega
   have h7:¬ (n+k<=cap):=by omega
   simp[Builtin.append_,run_underlying hT.gH,run_underlying htx,sizeOf,typeInfo,zeroValue,hi,hz,hs,hby,asInt,asIntOf,hw,h1,h2,h3,h5,h6,h7,hzc,hzk,hold,Question.forced,newRow,grownCap]
   congr 2
   apply Array.ext'
   simp
theorem Qz{t tx e ty:TypeId}{zv:Value}{sz bytes:Nat}{w:World}{ad:Option Addr}{n cap:Nat}(hT:dE P t e zv sz bytes)(htx:P.underlying tx=some (.int .i64))(hn:n<=cap):
 (Builtin.append_ #[t,tx] ty #[.slice ad n cap,.int .i64 0]).run P w=.ok (.slice ad n cap) w:=by
 obtain⟨i,hi,hz,hs,hby⟩:=info_parts hT.info
 have hw:i64.wrap 0=0:=jQ (by omega) (by omega)
 cases ad<;>simp[Builtin.append_,run_underlying hT.gH,run_underlying htx,sizeOf,typeInfo,hi,hs,hby,asInt,asIntOf,hw,hn,storeCells]
theorem QD{t tx e:TypeId}{zv u:Value}{bytes:Nat}{α:Type}{R:Mem->α->List Value->Prop}{z:α}{x y:Operand}{a:Act}{Kt_:Kt}{m:Mem}{b6:Value->World->Prop}{g:Option Nat}{cap k:Nat}{l0 l l':List α}{ad:Option Addr}(hT:dE P t e zv 1 bytes)(htx:P.underlying tx=some (.int .i64))(hzc:zv.cells= #[u])(hu:u.oneCell'=true)(hRz:R m z [u])(hR:oY R 1)(hx:app bytes l (List.replicate k z)=some l')(hK:Ke a Kt_)
 (hO:Ow m [rowOf e 1 g cap (l0++l)]) (hE:dM R m 1 (fP g) cap (l0++l)) (hEl:dM R m 1 ad (cap-l0.length) l) (had:l0.length<cap->ad=dG (fP g) cap l0.length 1)
 (ho:o.op=.call ⟨.builtin .append,#[x,y],#[t,tx]⟩) (hxx:gV Kt_ x=some (.slice ad l.length (cap-l0.length))) (hy:gV Kt_ y=some (.int .i64 (k:Int))) (hb:decide (1<=bytes)=true)
 (hp:∀m' g' cap' l0' ad',Le m m'->St (bK [rowOf e 1 g cap (l0++l)]) m m' [rowOf e 1 g' cap' (l0'++l')]->dM R m' 1 (fP g') cap' (l0'++l')->dM R m' 1 ad' (cap'-l0'.length) l'->(l0'.length<cap'->ad'=dG (fP g') cap' l0'.length 1)->b6 (.slice ad' l'.length (cap'-l0'.length)) m'.w):bI P o a m.w b6:=by
 have hcap:(l0++l).length<=cap:=hE.sC.2.2
 rw[ay]at hcap
 obtain⟨hlen,rfl⟩:=nT hx
 rw[aP]at hlen
 have hb1:1<=bytes:=aZ hb
 have h63:l.length+k<=maxLen:=by have:=Nat.le_mul_of_pos_right (l.length+k) hb1;unfold maxLen;omega
 by_cases hn:k=0
 . subst hn
   have:=Qz (P:=P) (ty:=o.type) (w:=m.w) (ad:=ad) (n:=l.length) (cap:=cap-l0.length) hT htx (by omega)
   unfold bI execOp
   simp only[ho,resolve,invoke,builtin,Sem.run_bind,Sem.run_pure,Result.andThen_ok,aX,aF,bp,hK.ev hxx,hK.ev hy,Int.ofNat_zero,this]
   have e:l++List.replicate 0 z=l:=by simp
   have:=hp m g cap l0 ad (Le.refl m) (by rw[e];exact St.refl hO) (by rw[e];exact hE) (by rw[e];exact hEl) had
   rwa[e]at this
 . obtain⟨AZ,hgr⟩:=TQ (P:=P) (ty:=o.type) (w:=m.w) (ad:=ad) (n:=l.length) (cap:=cap-l0.length) (k:=k) hT htx hzc (by omega) hb1 hlen
   have hdl:(List.replicate k [u]).flatten=List.replicate k u:=Jh k u
   have k4:∀(i:Nat) (x:α) (cs:List Value),(List.replicate k z)[i]?=some x->(List.replicate k [u])[i]?=some cs->cs.length=1/\R m x cs:=fun i x cs h1 h2=>by
    rw[List.getElem?_replicate]at h1 h2;split at h1
    . cases h1;rename_i hi;rw[if_pos hi]at h2;cases h2;exact⟨rfl,hRz⟩
    . cases h1
   by_cases hroom:l.length+k<=cap-l0.length
   . have hg:∃b,g=some b:=by
      cases g with
      |some b=>exact⟨b,rfl⟩
      |none=>
       obtain⟨css,h1,_⟩:=hE
       have hc0:=h1.2.2.2.1 rfl
       omega
     obtain⟨b,rfl⟩:=hg
     obtain⟨cur,hcur,hcs⟩:=hO.ok (rowOf e 1 (some b) cap (l0++l)) (by simp) b rfl
     have ha:=had (by omega)
     have ha2:ad=some ⟨b,l0.length,none⟩:=by rw[ha];unfold dG;rw[if_neg (by omega)];simp only[fP,ak,Addr.add_mid,aL,Nat.mul_one]
     have r1:=AZ b l0.length cur ha2 hroom hcur (by rw[hcs];omega) hu
     obtain⟨m',q1,q2,q3,q4⟩:=OG (dss:=List.replicate k [u]) hR (St.refl hO) hE (by simp) k4 (by rw[hdl];simp) (by rw[ay,aP];omega) hcur hcs
     rw[hdl,ay,aP,Nat.mul_one]at q1
     rw[<- q1]at r1
     unfold bI execOp
     simp only[ho,resolve,invoke,builtin,Sem.run_bind,Sem.run_pure,Result.andThen_ok,aX,aF,bp,hK.ev hxx,hK.ev hy,r1]
     have r6:=q4
     rw[az]at r6
     have r7:=r6.from l0.length (by simp)
     rw[List.drop_left,<- ha]at r7
     have:=hp m' (some b) cap l0 ad q2 (by rw[<- az];exact q3) r6 r7 had
     rwa[ay,aP]at this
   . obtain⟨css,h1,h2,h4⟩:=hEl
     have hold:(Builtin.firstCells 1 l.length (.slice ad l.length (cap-l0.length))).run P m.w.drew=.ok css.flatten.toArray m.w.drew:=by
      cases ad with
      |none=>
       have hc:=h1.2.2.2.1 rfl
       have hm:l.length=0:=by omega
       have hye:css.flatten=[]:=bq (by have:=h1.1;omega)
       rw[hye,hm]
       exact run_firstCells_none m.w.drew 1 0 0 _
      |some a0=>
       exact run_firstCells_some m.w.drew 1 l.length a0 l.length _ css.flatten h1.1 (fun j v hv=>by
        obtain⟨b,o',ha,_,hc⟩:=h1.2.2.2.2 j v hv;cases ha;rw[Addr.add_mid];exact hc)
     have r1:=hgr _ hold (by omega)
     have hge:=grownCap_ge m.w (l.length+k) (cap-l0.length) e
     have hcm:=grownCap_le_maxLen m.w (l.length+k) (cap-l0.length) e h63
     obtain⟨m',q1,q2,q3,q4⟩:=BV (e:=e) (dss:=List.replicate k [u]) (l2:=List.replicate k z) (css:=css) hR (St.refl hO).drop h2 h4 (by simp) k4 h1.1 (by rw[hdl];simp) (cur:=(css.flatten++List.replicate k u).toArray++Builtin.zeroCells zv.cells (grownCap m.w (l.length+k) (cap-l0.length) e-(l.length+k))) (cap':=grownCap m.w (l.length+k) (cap-l0.length) e)
      (by have:=h1.1;rw[hzc,vG];simp only[Array.size_append,List.size_toArray,ay,aP];omega) (by rw[aP];exact hge) hcm (by
       have:=h1.1;rw[hdl,aP,Nat.mul_one,Array.toList_append,show l.length+k=(css.flatten++List.replicate k u).length by rw[ay,aP];omega];exact List.take_left)
     rw[<- q1]at r1
     unfold bI execOp
     simp only[ho,resolve,invoke,builtin,Sem.run_bind,Sem.run_pure,Result.andThen_ok,aX,aF,bp,hK.ev hxx,hK.ev hy,r1]
     have:=hp m' (some m.w.heap.size) _ [] (fP (some m.w.heap.size)) q2 q3 q4 q4 fun _=>(gR _ _ _).symm
     rwa[ay,aP]at this
def Lk:(c:Co)->T S c->Value
 |.int k,x=>.int k x
 |.u8,x=>.int .u8 ((show UInt8 from x).toNat:Int)
 |.bo,x=>.bool x
 |_,_=>undef
theorem VX{c:Co}(h:DE c=true)(m:Mem)(x:T S c):RK K c m x [Lk c x]:=by
 cases c<;>simp only[DE,aH]at h<;>rfl
theorem NM{c:Co}(h:DE c=true){m:Mem}{x:T S c}{cs:List Value}(hx:RK K c m x cs):cs=[Lk c x]:=by
 cases c<;>simp only[DE,aH]at h<;>exact hx
theorem Ja{c:Co}(h:DE c=true)(x:T S c):(Lk c x).oneCell'=true:=by
 cases c<;>simp only[DE,aH]at h<;>rfl
theorem rT{c:Co}(h:DE c=true):zK K c=1:=by
 cases c<;>simp only[DE,aH]at h<;>rfl
theorem Me(hT:dx P K tt){t tx:TypeId}{x y:Operand}(ho:o.op=.call ⟨.builtin .append,#[x,y],#[t,tx]⟩){v w:CV S}(h:ql tb tt t tx v w ob ct k=some r):dT P K o [.one v,.one w] ob ct k r:=by
 have hox:o.op.operands.toList=[x,y]:=by rw[ho];rfl
 unfold ql at h;obtain⟨ec,hec,h1⟩:=aa.1 h;obtain⟨ei0,hei0,h2⟩:=aa.1 h1;obtain⟨xi,hxi,h3⟩:=aa.1 h2;clear h h1 h2;obtain⟨hu,ei,hei,hE,hb⟩:=kh hT hec;rw[hei0]at hei;have e0:=ax hei;subst e0;have hb1:decide (1<=ei0.bytes)=true:=bg hb;have htd:=(hT.ty tx xi hxi).td;split at h3
 . rename_i n hd;rw[hd]at htd;obtain⟨u,hc,h4⟩:=aa.1 h3;have hc:=gi hc;refine⟨_,h4,by simp,fun g a m Lr Lm hf _ ha hr hm hO=>?_⟩;simp only[pick,eW]at hr hm;subst hr;subst hm;rw[hox]at ha;obtain⟨hv,hw⟩:=eo ha;simp only[bP,bM]at hv hw;have hx:a.eval x=.slice none 0 0:=by simpa using hv
   have hy:a.eval y=.int .i64 n:=by simpa using hw
   refine QE (α:=T S ec.2) (n:=n.toNat) hE htd hc rfl (da a [x,y]) (St.refl (Ow.nil m)) ho (by rw[bQ a [x,y] (by simp),hx]) (by rw[bQ a [x,y] (by simp),hy]) hb1 fun m' b cap hle hcap hS=>?_
   have hge:=GG.gw (x:=⟨some b,none,cap,0,default⟩) (hf (ct+1) (by omega) (by omega)).1;refine⟨m',g.jm (ct+1) ⟨some b,none,cap,0,default⟩,[rowOf ec.1 (zK K ec.2) (some b) cap ([]:List (T S ec.2))],rfl,by simpa using hS,hge,rfl,rfl,GG.eU,⟨_,[],rfl,⟨_,GG.cM,rfl⟩,rfl⟩,?_⟩;simp only[bP,bM];exact⟨_,b,GG.cM,rfl,rfl,rfl,hcap⟩
 . rename_i q d l n hd;rw[hd]at htd;have h:=h3;clear h3;split at h
   . rename_i hdc hoc hA _;subst hdc;obtain⟨⟨ver,ao⟩,hq,h'⟩:=aa.1 h;clear h;have h:=h';clear h';split at h
     . rename_i e' d' hao;simp only at hao;subst hao;split at h
       . rename_i hd' he' _;have he':=ah he';subst he';subst hd';obtain⟨z,hz,h'⟩:=aa.1 h;clear h;have h:=h';clear h';obtain⟨u,hc,h'⟩:=aa.1 h;clear h;have h:=h';clear h';obtain⟨l2,hl2,h'⟩:=aa.1 h;clear h;have h:=h';clear h';have hc:=gi hc;have hety:=hT.ty ec.1 ei0 hei0;rw[rT hoc]at hE;obtain⟨n,rfl⟩:∃z:Nat,n=(z:Int):=⟨n.toNat,by omega⟩;refine⟨_,h,by simp,fun g a m Lr Lm hf _ ha hr hm hO=>?_⟩;simp only[pick,eW]at hr;subst hr;obtain⟨en,rfl,hoo,gh,j1,rfl⟩:=dA hm hq;rw[hox]at ha;obtain⟨hv,hw⟩:=eo ha;simp only[bP,bM]at hv hw;obtain⟨gh',l0,ad,k1,k2,kE,k3,k4,k5⟩:=hv;rw[j1]at k1;have e1:=ax k1;subst e1;have hx:a.eval x=.slice ad l.length (gh.cap-l0.length):=by simpa using k2
         have hy:a.eval y=.int .i64 n:=by simpa using hw
         have hO':Ow m [rowOf ec.1 1 gh.g gh.cap (l0++l)]:=by simpa[rowOf,k4,rT hoc]using hO
         have hRz:RK K ec.2 m z (jc ei0.zero):=tJ (K:=K) (g:=g) (m:=m) hz (kQ hety.VO);have hzl:=NM hoc hRz;have hzc:(zeroOf ei0).cells= #[Lk ec.2 z]:=by
          apply Array.ext';rw[mh hety,hzl]
         rw[hzl]at hRz;have hR:=cF K ec.2;rw[rT hoc]at hR k3 kE k5;refine QD hE htd hzc (Ja hoc z) hRz hR (by rw[aG]at hl2;exact hl2) (da a [x,y]) hO' k3 kE k5 ho (by rw[bQ a [x,y] (by simp),hx]) (by rw[bQ a [x,y] (by simp),hy]) hb1 fun m' g' cap' l0' ad' hle hS hA hA1 had=>?_
         rw[k4];exact I4 hf hle (by simpa[rowOf,lQ,rT hoc]using hS) (by rw[rT hoc];exact hA) (by rw[rT hoc];exact hA1) (by rw[rT hoc];exact had)
       . cases h
     . cases h
   . cases h
 . cases h3
theorem zI(hT:dx P K tt){t:TypeId}{x y:Operand}(ho:o.op=.call ⟨.builtin .append,#[x,y],#[t,t]⟩){v w:CV S}(h:um tt fa t v w ob ct k=some r):dT P K o [.one v,.one w] ob ct k r:=by
 have hox:o.op.operands.toList=[x,y]:=by rw[ho];rfl
 unfold um at h;obtain⟨ec,hec,h'⟩:=aa.1 h;clear h;have h:=h';clear h';obtain⟨ei0,hei0,h'⟩:=aa.1 h;clear h;have h:=h';clear h';obtain⟨l',hl',h'⟩:=aa.1 h;clear h;have h:=h';clear h';obtain⟨hu,ei,hei,hE,hb⟩:=kh hT hec;rw[hei0]at hei;have e0:=ax hei;subst e0;have hb1:decide (1<=ei0.bytes)=true:=bg hb;have hR:=cF K ec.2;split at h
 . obtain⟨l2,hl2,h'⟩:=aa.1 h;clear h;have h:=h';clear h';split at h
   . refine⟨_,h,by simp,fun g a m Lr Lm hf _ ha hr hm hO=>?_⟩;simp only[pick,eW]at hr hm;subst hr;subst hm;rw[hox]at ha;obtain⟨hv,hw⟩:=eo ha;simp only[bP,bM]at hv hw;have hx:a.eval x=.slice none 0 0:=by simpa using hv
     obtain⟨a2,c2,hy,hE2⟩:=mg hl' hw;refine T6 hE hR hl2 (da a [x,y]) 0 ((St.refl (Ow.nil m)).Rv #[] ec.1) rfl (vH.nil m (zK K ec.2) #[]) hE2 ho (by rw[bQ a [x,y] (by simp),hx];rfl) (by rw[bQ a [x,y] (by simp),hy]) hb1 fun m' g' cs' cap' hle hS hA=>?_
     exact BK hf hle (by simpa using hS) hA
   . refine⟨_,h,by simp,fun g a m Lr Lm hf _ ha hr hm hO=>?_⟩;simp only[pick,eW]at hr hm;subst hr;subst hm;rw[hox]at ha;obtain⟨hv,hw⟩:=eo ha;simp only[bP,bM]at hv hw;have hx:a.eval x=.slice none 0 0:=by simpa using hv
     obtain⟨a2,c2,hy,hE2⟩:=mg hl' hw;refine aby hE hR hl2 (da a [x,y]) 0 ((St.refl (Ow.nil m)).KR (α:=T S ec.2) ec.1 (zK K ec.2)) rfl (dM.nil m (zK K ec.2)) hE2 ho (by rw[bQ a [x,y] (by simp),hx];rfl) (by rw[bQ a [x,y] (by simp),hy]) hb1 fun m' g' cap' hle hS hA=>?_
     exact NG hf hle (by simpa using hS) hA
 . rename_i q d l;obtain⟨⟨ver,ao⟩,hq,h'⟩:=aa.1 h;clear h;have h:=h';clear h';split at h
   . rename_i e' d' hd hao _;simp only at hao;subst hao;subst hd;split at h
     . rename_i hd' he' _;have he':=ah he';subst he';subst hd';obtain⟨l2,hl2,h'⟩:=aa.1 h;clear h;have h:=h';clear h';refine⟨_,h,by simp,fun g a m Lr Lm hf _ ha hr hm hO=>?_⟩;simp only[pick,eW]at hr;subst hr;obtain⟨en,rfl,hoo,gh,j1,rfl⟩:=dA hm hq;rw[hox]at ha;obtain⟨hv,hw⟩:=eo ha;simp only[bP,bM]at hv hw;obtain⟨gh',l0,ad,k1,k2,kE,k3,k4,k5⟩:=hv;rw[j1]at k1;have e1:=ax k1;subst e1;have hx:a.eval x=.slice ad l.length (gh.cap-l0.length):=by simpa using k2
       obtain⟨a2,c2,hy,hE2⟩:=mg hl' hw;have hO':Ow m [rowOf ec.1 (zK K ec.2) gh.g gh.cap (l0++l)]:=by simpa[rowOf,k4]using hO
       refine T5 hE hR hl2 (da a [x,y]) hO' k3 kE k5 hE2 ho (by rw[bQ a [x,y] (by simp),hx];rfl) (by rw[bQ a [x,y] (by simp),hy]) hb1 fun m' g' cap' l0' ad' hle hS hA hA1 had=>?_
       rw[k4];exact I4 hf hle (by simpa[rowOf,lQ]using hS) hA hA1 had
     . cases h
   . cases h
 . rename_i q;obtain⟨⟨ver,ao⟩,hq,h'⟩:=aa.1 h;clear h;have h:=h';clear h';split at h
   . rename_i e' d l hao;simp only at hao;subst hao;split at h
     . rename_i hd he' _;have he':=ah he';subst he';subst hd;obtain⟨l2,hl2,h'⟩:=aa.1 h;clear h;have h:=h';clear h';refine⟨_,h,by simp,fun g a m Lr Lm hf _ ha hr hm hO=>?_⟩;simp only[pick,eW]at hr;subst hr;obtain⟨en,rfl,hoo,gh,cs,j1,j2,rfl,j4,j5⟩:=dA hm hq;rw[hox]at ha;obtain⟨hv,hw⟩:=eo ha;simp only[bP,bM]at hv hw;obtain⟨gh',k1,k2⟩:=hv;rw[j1]at k1;have e1:=ax k1;subst e1;obtain⟨hfa,hF⟩:=j5 rfl;have hx:a.eval x=.slice (fP gh.g) l.length gh.cap:=by rw[j2,<- hfa];simpa using k2
       obtain⟨a2,c2,hy,hE2⟩:=mg hl' hw;have hO':Ow m [bR.arr gh.g cs ec.1]:=by simpa using hO
       refine T6 hE hR hl2 (da a [x,y]) 0 (St.refl hO') rfl hF hE2 ho (by rw[bQ a [x,y] (by simp),hx];rfl) (by rw[bQ a [x,y] (by simp),hy]) hb1 fun m' g' cs' cap' hle hS hA=>?_
       exact BK hf hle (by simpa using hS) hA
     . cases h
   . cases h
 . rename_i d l;split at h
   . rename_i hd _;subst hd;obtain⟨l2,hl2,h'⟩:=aa.1 h;clear h;have h:=h';clear h';refine⟨_,h,by simp[val],fun g a m Lr Lm hf _ ha hr hm hO=>?_⟩;simp only[val,pick,eW]at hr hm;subst hr;subst hm;rw[hox]at ha;obtain⟨hv,hw⟩:=eo ha;simp only[bP,bM]at hv hw;obtain⟨ad,hx,hE1⟩:=hv;have hx:a.eval x=.slice ad l.length l.length:=by simpa using hx
     obtain⟨a2,c2,hy,hE2⟩:=mg hl' hw;by_cases hn:l'=[]
     . subst hn;obtain⟨hsz,rfl⟩:=nT hl2;refine bI.val (v:=.slice ad l.length l.length) ?_ (AA.pure rfl (by simpa using hO) ?_)
       . have:=sv (P:=P) (ty:=o.type) (w:=m.w) hE ad l.length l.length a2 c2 (Nat.le_refl _);simp[execOp,ho,resolve,invoke,builtin,hx,hy,this]
       . simp only[bP,bM,aW];exact⟨ad,l.length,rfl,hE1⟩
     . have hpos:0<l'.length:=List.length_pos_iff.2 hn;refine T7 hE hR hl2 (da a [x,y]) (St.refl (Ow.nil m)) hE1 hE2 ho (by rw[bQ a [x,y] (by simp),hx];rfl) (by rw[bQ a [x,y] (by simp),hy]) hb1 (by rw[lQ];omega) fun m' g' cap' hle hS hA=>?_
       refine⟨m',g,[],rfl,by simpa using St.drop (by simpa using hS),GE.refl g,rfl,rfl,fun i h=>absurd rfl h,rfl,?_⟩;simp only[val,bP,bM];exact⟨_,_,rfl,hA⟩
   . cases h
 . cases h
theorem RE{α:Type}{R:Mem->α->List Value->Prop}{enc:α->Value}(hE:∀m x,R m x [enc x])(m:Mem)(b:Nat)(l:List α)(hn:l.length<=maxLen):vH R m 1 (some b) (yB enc l) l.length l:=by
 have hfl:∀l:List α,(l.map fun c=>[enc c]).flatten=l.map enc:=fun l=>by induction l with|nil=>rfl|cons c l ih=>simp[ih]
 refine⟨⟨l.map fun c=>[enc c],by simp,fun i x c hx hc=>?_,Nat.le_refl _,hn,(fun e=>by cases e),fun _=>⟨b,0,rfl,rfl,fun j v hv=>?_,by rw[F6];omega⟩⟩,fun b' _=>by rw[F6,Nat.mul_one]⟩
 . rw[List.getElem?_map,hx]at hc;simp at hc;subst hc;exact⟨rfl,hE _ _⟩
 . rw[hfl]at hv;rw[aL];unfold yB;simpa using hv
theorem ZG{q off n:Nat}{i j:Int}{l:List UInt8}(h:pxL q off n i j ob=some l):∃ver T cs f ws,look q ob=some (ver,.box T cs)/\cutAt off cs=some (.a8 n f::ws)/\l=((lb n f).drop i.toNat).take (j-i).toNat:=by
 unfold pxL at h;obtain⟨⟨ver,ao⟩,hq,h⟩:=aa.1 h;split at h
 . rename_i T cs hao;simp only at hao;subst hao;obtain⟨cs1,hc,h⟩:=aa.1 h;split at h
   . rename_i n1 f ws;split at h
     . rename_i hn;have hn:=ah hn;subst hn;cases h;exact⟨ver,T,cs,f,ws,hq,hc,rfl⟩
     . cases h
   . cases h
 . cases h
theorem Md(hT:dx P K tt){t:TypeId}{x y:Operand}(ho:o.op=.call ⟨.builtin .append,#[x,y],#[t,t]⟩){q:Nat}{d:Co}{l:List (T S d)}{q2 off n:Nat}{i j:Int}(h:qj tt t q d l q2 off n i j ob ct k=some r):dT P K o [.one (.rw q d l),.one (.px q2 off n i j)] ob ct k r:=by
 have hox:o.op.operands.toList=[x,y]:=by rw[ho];rfl
 unfold qj at h;obtain⟨ec,hec,h'⟩:=aa.1 h;clear h;have h:=h';clear h';obtain⟨ei0,hei0,h'⟩:=aa.1 h;clear h;have h:=h';clear h';obtain⟨⟨ver,ao⟩,hq,h'⟩:=aa.1 h;clear h;have h:=h';clear h';obtain⟨hu,ei,hei,hE,hb⟩:=kh hT hec;rw[hei0]at hei;have e0:=ax hei;subst e0;have hb1:decide (1<=ei0.bytes)=true:=bg hb;split at h
 . rename_i e' d' hd hec2 hao _ _;simp only at hao;subst hao;subst hd;split at h
   . rename_i hd' he' _;rw[al]at he';have hn0:=aj he'.2;have he':=ah he'.1;subst he';subst hd';obtain⟨l',hl',h'⟩:=aa.1 h;clear h;have h:=h';clear h';obtain⟨l2,hl2,h'⟩:=aa.1 h;clear h;have h:=h';clear h';obtain⟨ver2,T2,cs,f,ws,hq2,hcs,rfl⟩:=ZG hl';have hR:oY (RK K .u8) (zK K .u8):=cF K .u8;rw[hec2]at hE;refine⟨_,h,by simp,fun g a m Lr Lm hf _ ha hr hm hO=>?_⟩;obtain⟨en2,rfl,hoo2,gh2,b2,us,i1,i2,rfl,i4⟩:=dA hr hq2;obtain⟨en,rfl,hoo,gh,j1,rfl⟩:=dA hm hq;rw[hox]at ha;obtain⟨hv,hw⟩:=eo ha;simp only[bP,bM]at hv hw;obtain⟨gh',l0,ad,k1,k2,kE,k3,k4,k5⟩:=hv;rw[j1]at k1;have e1:=ax k1;subst e1;obtain⟨gh3,b3,w1,w2,w3,w4,w5,w6⟩:=hw;rw[i1]at w1;have e1:=ax w1;subst e1;rw[i2]at w2;have e1:=ax w2;subst e1;have hx:a.eval x=.slice ad l.length (gh.cap-l0.length):=by simpa using k2
     have hO1:Ow m [rowOf ec.1 (zK K .u8) gh.g gh.cap (l0++l)]:=by
      have:Ow m ([bR.box b2 us.toArray T2]++[bR.row gh.g ec.1 (gh.cap*zK K .u8) (gh.n*zK K .u8)]):=by simpa using hO
      simpa[rowOf,k4]using this.right
     obtain⟨hus,hle0⟩:=qw hcs i4;obtain⟨ca,cr,hcat,hca,_⟩:=hus;simp only[bM]at hca;subst hca;have hbx:m.w.heap[b2]?=some (.cells us.toArray T2 (0,0)):=hO.ok (.box b2 us.toArray T2) (by simp);obtain⟨i,rfl⟩:∃z:Nat,i=(z:Int):=⟨i.toNat,by omega⟩;obtain⟨j,rfl⟩:∃z:Nat,j=(z:Int):=⟨j.toNat,by omega⟩;have hll:(((lb n f).drop (i:Int).toNat).take ((j:Int)-(i:Int)).toNat).length=j-i:=by
      simp only[lb,aM,bh,aQ,List.length_range,aG];omega
     have hle1:i<=j:=by omega
     have hle2:j<=n:=by omega
     generalize hL:((lb n f).drop (i:Int).toNat).take ((j:Int)-(i:Int)).toNat=L2 at*
     have hget:∀z u,L2[z]?=some u->us[off+i+z]?=some (U8 u):=fun z u hz=>by
      have hzl:z<L2.length:=(List.getElem?_eq_some_iff.1 hz).1;rw[<- hL,List.getElem?_take,if_pos (by omega),List.getElem?_drop,aG]at hz;unfold lb at hz;rw[List.getElem?_map,List.getElem?_range (by omega)]at hz;cases hz;have:(us.drop off)[i+z]?=some (U8 (f (i+z))):=by
       rw[hcat,List.getElem?_append_left (by rw[aQ,List.length_range];omega),List.getElem?_map,List.getElem?_range (by omega)];rfl
      rw[List.getElem?_drop]at this;rw[Nat.add_assoc];exact this
     have hE2:Rc rI m 1 (some ⟨b2,off+i,none⟩) (n-i) L2:=by
      refine⟨L2.map fun u=>[U8 u],⟨by rw[BN,aQ,Nat.mul_one],by omega,?_,(fun h=>by cases h),fun z v hz=>?_⟩,by simp,fun z u c hz hc=>?_⟩
      . unfold maxLen;omega
      . rw[BN,List.getElem?_map]at hz
        cases hu:L2[z]? with
        |none=>rw[hu]at hz;cases hz
        |some u=>
         rw[hu]at hz;cases hz
         refine⟨b2,off+i,rfl,⟨trivial,mq hbx⟩,?_⟩
         show m.w.cell? _=_
         rw[cell_of_row _ _ _ _ _ _ hbx,List.getElem?_toArray];exact hget z u hu
      . rw[List.getElem?_map,hz]at hc;cases hc;exact⟨rfl,rfl⟩
     have hy:a.eval y=.slice (some ⟨b2,off+i,none⟩) L2.length (n-i):=by
      rw[hll];simpa using w3
     refine FX (R:=RK K .u8) hE hR hl2 (da a [x,y]) hO1 k3 kE k5 hE2 ho (by rw[bQ a [x,y] (by simp),hx];rfl) (by rw[bQ a [x,y] (by simp),hy];rfl) hb1 fun m' g' cap' l0' ad' hle hS hA hA1 had=>?_
     rw[k4];exact PX (c:=.u8) hf (by simpa[k4]using hO) (by simpa[rowOf,lQ]using hS) hA hA1 had
   . cases h
 . cases h
theorem rS(hT:dx P K tt){t:TypeId}{x y:Operand}(ho:o.op=.makeSlice t x y)(hxy:HC x y=true){a b:AV S}{n:Int}(hn:idxOf a=some n){ec:TypeId×Co}(hec:gU tt t=some ec){ei:TI S}(hei:tt ec.1=some ei)(h1:DE ec.2=true)(hA:fu ei.d=false){z:T S ec.2}(hz:BU tb ec.2 ei.zero=some z)
 {u:Unit} (hc:nW (0<=n/\n*ei.bytes<=140737488355328)=some u) (h:k {v:=.one (.aw (ct+1)),add:=[(ct+1,.arr ec.1 ec.2 true (List.replicate n.toNat z))]}=some r):dT P K o [a,b] ob ct k r:=by
 have hox:o.op.operands.toList=[x,y]:=by rw[ho];rfl
 obtain⟨hu,ei',hei',hE,hb⟩:=kh (K:=K) hT hec
 rw[hei]at hei';have e0:=ax hei';subst e0
 have hc:=gi hc
 have hty:=hT.ty ec.1 ei hei
 rw[rT h1]at hE
 refine⟨_,h,by simp,fun g ac m Lr Lm hf _ ha hr hm hO=>?_⟩
 simp only[pick,eW]at hr hm
 subst hr;subst hm
 rw[hox]at ha
 obtain⟨hv,hw⟩:=eo ha
 obtain⟨kk,hx⟩:=ou hn hv
 have hy:ac.eval y=.int kk n:=by
  unfold HC at hxy;split at hxy
  . have:=ah hxy;subst this;exact hx
  . simp only[al,aJ]at hxy;obtain⟨rfl,rfl⟩:=hxy;exact hx
  . cases hxy
 have hze:=NM h1 (tJ (K:=K) (g:=g) (m:=m) hz (kQ hty.VO))
 have hzv:zeroOf ei=Lk ec.2 z:=by
  unfold zeroOf;rw[hA,hze];rfl
 obtain⟨nn,rfl⟩:∃q:Nat,n=(q:Int):=⟨n.toNat,by omega⟩
 rw[hzv]at hE
 refine QF (Lk ec.2) z hE (Ja h1 z) (da ac [x,y]) (St.refl (Ow.nil m)) ho (by rw[bQ ac [x,y] (by simp),hx]) (by rw[bQ ac [x,y] (by simp),hy]) rfl (by have:=hc.2;rw[<- Int.natCast_mul]at this;omega) hb fun m' bb hlt hle hS=>?_
 have hnn:nn<=140737488355328:=by
  have h2:nn*ei.bytes<=140737488355328:=by have:=hc.2;rw[<- Int.natCast_mul]at this;omega
  exact Nat.le_trans (Nat.le_mul_of_pos_right nn hb) h2
 have hA:=RE (R:=RK K ec.2) (enc:=Lk ec.2) (VX h1) m' bb (List.replicate nn z) (by rw[aP];unfold maxLen;omega)
 have hS':=hS.toArr
 rw[aG]
 have:=BK (K:=K) (c:=ec.2) (e:=ec.1) (Lm:=[]) (rm:=[]) hf hle (by simpa using hS') (by rw[rT h1];exact hA)
 rw[aP]at this
 exact this
theorem zm{a:Act}{g:GG S}{m:Mem}:∀{ps:List (Nat×Operand)} {xs:List (AV S)},oT K g m a (ps.map (·.2)) xs->xs.length=ps.length/\∀(i:Nat) (p:Nat×Operand) (v:AV S),ps[i]?=some p->xs[i]?=some v->bP K g m v (a.eval p.2)
 |[],xs,h=>by simp only[bp,oT]at h;subst h;exact⟨rfl,fun i p v hp=>by simp at hp⟩
 |p::ps,xs,h=>by
  obtain⟨v,vs,rfl,h1,h2⟩:=h;obtain⟨k1,k2⟩:=zm h2;refine⟨by simp[k1],fun i p' v' hp hv=>?_⟩
  cases i with
  |zero=>simp at hp hv;subst hp;subst hv;exact h1
  |succ i=>exact k2 i p' v' (by simpa using hp) (by simpa using hv)
theorem Fq:∀{ps:List (Nat×AV S)} {i:Nat},C8 i ps=true->∀j p,ps[j]?=some p->p.1=i+j
 |[],_,_,j,p,h=>by simp at h
 |(q,v)::ps,i,h,j,p,hp=>by
  simp only[C8,al]at h;have h1:=ah h.1
  cases j with
  |zero=>simp at hp;subst hp;simpa using h1.symm
  |succ j=>have:=Fq h.2 j p (by simpa using hp);omega
theorem Oi{c:Co}{g:GG S}{m:Mem}:∀{ps:List (Nat×AV S)} {l:List (T S c)} {us:List Value},Qh tb c ps=some l->us.length=ps.length->(∀(i:Nat) (p:Nat×AV S) (u:Value),ps[i]?=some p->us[i]?=some u->bP K g m p.2 u)->pM (fun x cs=>RK K c m x cs) l (us.map fun u=>u.cells.toList)
 |[],l,us,h,hl,_=>by simp only[Qh,af]at h;subst h;cases us with|nil=>exact .nil|cons _ _=>simp at hl
 |(q,a)::ps,l,[],_,hl,_=>by simp at hl
 |(q,a)::ps,l,u::us,h,hl,hv=>by
  simp only[Qh]at h;obtain⟨ys,hys,h⟩:=aa.1 h;obtain⟨x,hx,h⟩:=aa.1 h;obtain⟨l',hl',rfl⟩:=ab.1 h;exact .cons (tJ hx (qn hys (hv 0 _ _ rfl rfl))) (Oi hl' (by simpa using hl) fun i p w hp hw=>hv (i+1) p w (by simpa using hp) (by simpa using hw))
theorem pM.mono{α β:Type}{R R':α->β->Prop}:∀{l:List α} {l':List β},pM R l l'->(∀x y,R x y->R' x y)->pM R' l l'
 |_,_,.nil,_=>.nil
 |_,_,.cons h1 h2,h=>.cons (h _ _ h1) (pM.mono h2 h)
theorem pM.get{α β:Type}{R:α->β->Prop}:∀{l:List α} {l':List β},pM R l l'->∀(i:Nat) (x:α) (y:β),l[i]?=some x->l'[i]?=some y->R x y
 |_,_,.nil,i,x,y,h,_=>by simp at h
 |_,_,.cons h1 h2,i,x,y,hx,hy=>by
  cases i with
  |zero=>simp at hx hy;subst hx;subst hy;exact h1
  |succ i=>exact pM.get h2 i x y (by simpa using hx) (by simpa using hy)
theorem Ip{α β:Type}:∀{l:List α} {l':List β} (i:Nat) (p:α×β),(l.zip l')[i]?=some p->l[i]?=some p.1/\l'[i]?=some p.2
 |[],_,i,p,h=>by simp at h
 |_::_,[],i,p,h=>by simp at h
 |a::l,b::l',i,p,h=>by
  cases i with
  |zero=>simp at h;subst h;exact⟨rfl,rfl⟩
  |succ i=>simpa using Ip i p (by simpa using h)
theorem Bs{α β:Type}(f:α->List β)(l:List α):l.flatMap f=(l.map f).flatten:=by induction l with|nil=>rfl|cons a l ih=>simp[ih]
theorem W7(hT:dx P K tt){t:TypeId}{ec:TypeId×Co}(hec:gU tt t=some ec){ei:TI S}(hei:tt ec.1=some ei){len:Nat}{parts:Array (Nat×Operand)}(ho:o.op=.buildSlice t len parts){a:Act}{w:World}(hlen:len=parts.size)(hix:∀(i:Nat) (p:Nat×Operand),parts[i]?=some p->p.1=i)(hs:len*ei.size<=16777216)
 (hsz:∀u∈parts.toList.map (fun p=>a.eval p.2),u.cells.size=ei.size):
 (execOp a.eval o).run P w=.ok (.value (.slice (some ⟨w.heap.size,0,none⟩) len len)) (w.alloc (.cells ((parts.toList.map fun p=>a.eval p.2).flatMap fun u=>u.cells.toList).toArray ec.1)):=by
 obtain⟨hu,ei',hei',hE,hb⟩:=kh (K:=K) hT hec
 rw[hei]at hei';have e0:=ax hei';subst e0
 obtain⟨inf,i1,i2,i3,i4⟩:=info_parts (hT.ty ec.1 ei hei).info
 have hpos:0<ei.size:=by have:=hE.pos;obtain⟨_,j1,_,j3,_⟩:=info_parts hE.info;rw[i1]at j1;cases j1;omega
 have hzs:=hE.zs
 have hparts:(parts.map fun(x:Nat×Operand)=>(x.1,a.eval x.2)).toList=((parts.toList.map fun p=>a.eval p.2).zipIdx 0).map fun x=>(x.2,x.1):=by
  refine List.ext_getElem? fun i=>?_
  simp only[Array.toList_map,List.getElem?_map,List.getElem?_zipIdx,Array.getElem?_toList,Option.map_map]
  cases hp:parts[i]? with
  |none=>rfl
  |some p=>simp[hix i p hp]
 by_cases h0:len=0
 . subst h0
   have hp0:parts= #[]:=by
    have:parts.size=0:=hlen.symm;exact Array.eq_empty_of_size_eq_zero this
   subst hp0
   simp[execOp,ho,Instr.buildSlice,run_underlying hu,sizeOf,typeInfo,i1,newRow,Instr.fill,newObj,Sem.run]
   rw[show(Array.map (fun(_:Nat)=>(default:Value)) (Array.range 0))= #[]by simp]
 . have hmul:¬ len*inf.size=0:=by rw[i3];exact Nat.mul_ne_zero h0 (by omega)
   have hrun:=run_buildSlice (P:=P) w t ec.1 len (parts.map fun(x:Nat×Operand)=>(x.1,a.eval x.2)) ((parts.toList.map fun p=>a.eval p.2).flatMap fun u=>u.cells.toList).toArray inf (zeroOf ei) hu i1 i2 (by rw[i3];omega) hmul (by
    rw[hparts,i3];refine Great.fill_whole hpos _ _ hsz ?_;simp[hlen])
   simp only[execOp,ho,Sem.run_bind,hrun,Result.andThen_ok,Sem.run_pure]
theorem BV{cells:Array Value}{e:TypeId}:∃m':Mem,m'.w=m.w.alloc (.cells cells e)/\Le m m'/\St [] m m' [.row (some m.w.heap.size) e cells.size cells.size]/\At m' m.w.heap.size 0 cells.toList:=by
 let X:Nat->Nat->Prop:=fun b o=>b=m.w.heap.size/\o<cells.size
 have h1:=(St.refl (Ow.nil m)).zH cells e;have h2:=h1.tk (e':= .row (some m.w.heap.size) e cells.size cells.size) X (fun b o h=>by simp[bR.box,h.1]) (fun b hb=>by cases hb;exact⟨cells,eu _ _,rfl⟩) (fun b hb=>by simpa[bR.box,bR.row]using hb) (by simp[bR.row])
  (fun b hb o ho=>⟨trivial,fun hx=>by have h1:cells.size<=o:=ho;have h2:=hx.2;omega⟩)
 refine⟨_,rfl,h2.le,by simpa using h2,fun k v hv=>⟨⟨.inr ⟨rfl,?_⟩,by simp[Mem.tk]⟩,?_⟩⟩
 . have:=(List.getElem?_eq_some_iff.1 hv).1;simpa using this
 . show(m.w.alloc _).cell? _=_;rw[cell_of_row _ _ _ _ _ _ (eu _ _),aL];simpa using hv
theorem p7(hT:dx P K tt){t:TypeId}{len:Nat}{parts:Array (Nat×Operand)}(ho:o.op=.buildSlice t len parts){ec:TypeId×Co}(hec:gU tt t=some ec){ei:TI S}(hei:tt ec.1=some ei)
 (h:(match Nat.beq len xs.length&&C8 0 ((parts.toList.map Prod.fst).zip xs)&&Nat.ble (len*ei.size) 16777216 with
  |true=>(Qh tb ec.2 ((parts.toList.map Prod.fst).zip xs)).bind fun l=>match has t fa.lits||(Nat.beq len 0&&has t fa.IV)with
   |true=>k {v:=.one (.aw (ct+1)),add:=[(ct+1,.arr ec.1 ec.2 true l)]}
   |false=>k {v:=.one (.rw (ct+1) ec.2 l),add:=[(ct+1,.row ec.1 ec.2)]}
  |false=>none)=some r):dT P K o xs ob ct k r:=by
 have hox:o.op.operands.toList=parts.toList.map (·.2):=by rw[ho];simp[Op.operands]
 split at h
 . rename_i hc
   simp only[al]at hc
   obtain⟨⟨c1,c2⟩,c3⟩:=hc
   have c1:=ah c1
   have c3:=aj c3
   obtain⟨l,hl,h'⟩:=aa.1 h
   clear h;have h:=h';clear h'
   obtain⟨hu,ei',hei',hE,hb⟩:=kh (K:=K) hT hec
   rw[hei]at hei';have e0:=ax hei';subst e0
   have hsize:zK K ec.2=ei.size:=by
    obtain⟨inf,i1,i2,i3,i4⟩:=info_parts (hT.ty ec.1 ei hei).info;obtain⟨_,j1,_,j3,_⟩:=info_parts hE.info;rw[i1]at j1;cases j1;omega
   have key:∀(g:GG S) (a:Act) (m:Mem),oT K g m a o.op.operands.toList xs->∃css:List (List Value),pM (fun x cs=>RK K ec.2 m x cs) l css/\css.length=len/\(execOp a.eval o).run P m.w=.ok (.value (.slice (some ⟨m.w.heap.size,0,none⟩) len len)) (m.w.alloc (.cells css.flatten.toArray ec.1)):=fun g a m ha=>by
    rw[hox]at ha;obtain⟨e1,e2⟩:=zm (ps:=parts.toList) ha;have hzl:((parts.toList.map Prod.fst).zip xs).length=parts.size:=by simp[e1]
    have hl2:=Oi (K:=K) (g:=g) (m:=m) (us:=parts.toList.map fun p=>a.eval p.2) hl (by rw[hzl];simp) (fun i p u hp hu=>by
     obtain⟨z1,z2⟩:=Ip i p hp;rw[List.getElem?_map]at hu
     cases hq:parts.toList[i]? with
     |none=>rw[hq]at hu;cases hu
     |some q=>rw[hq]at hu;cases hu;exact e2 i q p.2 hq z2)
    refine⟨_,hl2,by simp only[aQ,Array.length_toList];rw[c1,e1];simp,?_⟩;rw[<- Bs (fun u:Value=>u.cells.toList)];refine W7 hT hec hei ho (by rw[c1,e1];simp) (fun i p hp=>?_) c3 (fun u hu=>?_)
    . have hi:i<parts.toList.length:=by have:=(Array.getElem?_eq_some_iff.1 hp).1;simpa using this
      have hz:((parts.toList.map Prod.fst).zip xs)[i]?=some (p.1,xs[i]'(by rw[e1];exact hi)):=by
       rw[List.getElem?_zip_eq_some];exact⟨by rw[List.getElem?_map,Array.getElem?_toList,hp];rfl,by simp⟩
      have:=Fq c2 i _ hz;simpa using this
    . obtain⟨i,hi⟩:=List.getElem?_of_mem hu;have hil:=(List.getElem?_eq_some_iff.1 hi).1;have hl3:=hl2.len;have hil2:i<l.length:=by rw[hl3];simpa using hil
      have:=pM.get hl2 i l[i] u.cells.toList (by simp) (by rw[List.getElem?_map,hi];rfl);have:=(cF K ec.2).size this;rw[hsize]at this;simpa using this
   have hmax:∀(css:List (List Value)) {m:Mem},pM (fun x cs=>RK K ec.2 m x cs) l css->css.length=len->l.length=len/\len<=maxLen/\css.flatten.toArray.size=l.length*zK K ec.2:=fun css m h2 hl=>by
    have h3:=h2.len;have hp:0<ei.size:=by rw[<- hsize];exact(cF K ec.2).pos
    have:len<=16777216:=Nat.le_trans (Nat.le_mul_of_pos_right len hp) c3;refine⟨by omega,by unfold maxLen;omega,?_⟩;rw[List.size_toArray,ea (zK K ec.2) css (fun i c hc=>by
     have hil:=(List.getElem?_eq_some_iff.1 hc).1;exact(cF K ec.2).size (pM.get h2 i (l[i]'(by omega)) c (by simp) hc)),h3]
   split at h
   . refine⟨_,h,by simp,fun g a m Lr Lm hf _ ha hr hm hO=>?_⟩
     simp only[pick,eW]at hr hm
     subst hr;subst hm
     obtain⟨css,k1,k2,k3⟩:=key g a m ha
     obtain⟨k4,k5,k6⟩:=hmax css k1 k2
     have hS:=((St.refl (Ow.nil m)).zH css.flatten.toArray ec.1).toArr
     unfold bI
     rw[k3]
     have hle:Le m ⟨m.w.alloc (.cells css.flatten.toArray ec.1 (0,0)),m.ok⟩:=hS.le
     have hA:vH (RK K ec.2) ⟨m.w.alloc (.cells css.flatten.toArray ec.1 (0,0)),m.ok⟩ (zK K ec.2) (some m.w.heap.size) css.flatten.toArray len l:=
      ⟨⟨css,by omega,fun i x c hx hc=>⟨(cF K ec.2).size (pM.get k1 i x c hx hc),(cF K ec.2).mono (pM.get k1 i x c hx hc) hle⟩,by omega,k5,(fun e=>by cases e),fun _=>⟨_,0,rfl,rfl,fun j v hv=>by rw[aL];simpa using hv,by rw[k6,k4];omega⟩⟩,fun b _=>by rw[k6,k4]⟩
     have:=BK (K:=K) (c:=ec.2) (e:=ec.1) (Lm:=[]) (rm:=[]) hf hle (by simpa using hS) hA
     rw[k4]at this
     exact this
   . refine⟨_,h,by simp,fun g a m Lr Lm hf _ ha hr hm hO=>?_⟩
     simp only[pick,eW]at hr hm
     subst hr;subst hm
     obtain⟨css,k1,k2,k3⟩:=key g a m ha
     obtain⟨k4,k5,k6⟩:=hmax css k1 k2
     obtain⟨m',e1,hle,hS,hA⟩:=BV (m:=m) (cells:=css.flatten.toArray) (e:=ec.1)
     unfold bI
     rw[k3,<- e1]
     have hE:=VW (cap:=len) (cF K ec.2) css (cs:=css.flatten) (by simpa using hA) rfl k5 (pM.mono k1 fun x c h=>(cF K ec.2).mono h hle) k4
     have:=NG (K:=K) (c:=ec.2) (e:=ec.1) (Lm:=[]) (rm:=[]) (g':=some m.w.heap.size) (cap:=len) (l:=l) hf hle (by rw[k6]at hS;simpa[rowOf,k4]using hS) hE
     rw[k4]at this
     exact this
 . cases h
end E
end
section
open Go.RowKit G
namespace E
variable {S:Nat->Type}{tb:Tb S}{K:ep tb}{P:Program}{o:Oper}{xs:List (AV S)}{ob:List (Nat×Nat×AO S)}{ct:Nat}{γ:Type}{k:ia S->Option γ}{r:γ}{tt:TypeId->Option (TI S)}{g:GG S}{m:Mem}{fa:FA S}
theorem C6(cs vs:Array Value)(off:Nat)(h:off+vs.size<=cs.size):vs.zipIdx.foldl (fun cs (x:Value×Nat)=>cs.setIfInBounds (off+x.2) x.1) cs=(cs.toList.take off++vs.toList++cs.toList.drop (off+vs.size)).toArray:=by
 rw[<- Array.foldl_toList,Array.toList_zipIdx];obtain⟨h1,h2⟩:=Great.foldl_set off vs.toList 0 cs;apply Array.ext_getElem?;intro i;rw[h2 i];have hl:(cs.toList.take off).length=off:=by simp;omega
 have hv:vs.toList.length=vs.size:=by simp
 rw[az];simp only[List.getElem?_toArray,Nat.add_zero,hv,aL];by_cases h3:i<off
 . rw[if_neg (by omega),List.getElem?_append_left (by omega),List.getElem?_take,if_pos h3];simp
 . rw[List.getElem?_append_right (by omega),hl];by_cases h4:i<off+vs.size
   . rw[if_pos (by omega),List.getElem?_append_left (by omega)]
   . rw[if_neg (by omega),List.getElem?_append_right (by omega),List.getElem?_drop,hv];simp only[Array.getElem?_toList];rw[show off+vs.size+(i-off-vs.size)=i by omega]
theorem xq(place:Nat->Option (Nat×Nat)):∀{ps:List (Nat×AV S)} {us:List Value} {cs cs':List (CV S)} {ws:List Value},jI place cs ps=some cs'->cJ K g m cs ws->us.length=ps.length->(∀(i:Nat) (p:Nat×AV S) (u:Value),ps[i]?=some p->us[i]?=some u->bP K g m p.2 u)->
 ∃ws',Instr.fill place ws.toArray ((ps.map Prod.fst).zip us)=some ws'.toArray/\cJ K g m cs' ws'
 |[],us,cs,cs',ws,h,hc,_,_=>by
  simp only[jI,af]at h;subst h;exact⟨ws,by simp[Instr.fill],hc⟩
 |(i,a)::ps,[],_,_,_,_,_,hl,_=>by simp at hl
 |(i,a)::ps,u::us,cs,cs',ws,h,hc,hl,hv=>by
  simp only[jI]at h;obtain⟨⟨off,size⟩,hp,h⟩:=aa.1 h;obtain⟨ys,hys,h⟩:=aa.1 h;obtain⟨cs1,hcs1,h⟩:=aa.1 h;have hcl:=qn hys (hv 0 _ _ rfl rfl);obtain⟨q1,q2,q3⟩:=Hu hcs1 hcl hc;have q1':u.cells.size=size:=by simpa using q1
  obtain⟨ws',k1,k2⟩:=xq place h q3 (by simpa using hl) (fun j p w hp' hw=>hv (j+1) p w (by simpa using hp') (by simpa using hw));refine⟨ws',?_,k2⟩;simp only[aF,List.zip_cons_cons,Instr.fill,hp];rw[if_neg (by simp[q1'];omega),C6 _ _ _ (by rw[q1'];simpa using q2)];rw[<- k1,q1']
theorem yy:∀{l:List Field} {fs:List (TypeId×Nat×Nat)},yx P l=some fs->l.mapM (fun f=>(P.info? f.type).map fun i=>(f.offset,i.size))=some (fs.map (·.2))
 |[],fs,h=>by simp only[yx,af]at h;subst h;rfl
 |x::l,fs,h=>by
  unfold yx at h;split at h
  . rename_i inf r h1 h2;cases h;have:=yy h2;simp[List.mapM_cons,h1,this]
  . cases h
theorem Dx(hT:dx P K tt){t:TypeId}{parts:Array (Nat×Operand)}(ho:o.op=.build t parts){ti:TI S}(hti:tt t=some ti){cs:List (CV S)}(h:k {v:=.agg cs}=some r)
 (hf:(match ti.d with
  |.struct fs=>jI (fun i=>(fs[i]?).map fun(f:TypeId×Nat×Nat)=>f.2) ti.zero ((parts.toList.map Prod.fst).zip xs)
  |.array _ e=>(tt e).bind fun ei=>jI (fun i=>some (i*ei.size,ei.size)) ti.zero ((parts.toList.map Prod.fst).zip xs)
  |_=>none)=some cs):dT P K o xs ob ct k r:=by
 have hox:o.op.operands.toList=parts.toList.map (·.2):=by rw[ho];simp[Op.operands]
 have hty:=hT.ty t ti hti
 have htd:=hty.td
 obtain⟨inf,i1,i2,i3,i4⟩:=info_parts hty.info
 refine⟨_,h,eC fun g a m ha=>?_⟩
 rw[hox]at ha
 obtain⟨e1,e2⟩:=zm (ps:=parts.toList) ha
 have hzl:((parts.toList.map Prod.fst).zip xs).length=parts.size:=by simp[e1]
 have hmap:((parts.toList.map Prod.fst).zip xs).map Prod.fst=parts.toList.map Prod.fst:=by
  rw[List.map_fst_zip];simp[e1]
 have hval:∀(i:Nat) (p:Nat×AV S) (u:Value),((parts.toList.map Prod.fst).zip xs)[i]?=some p->(parts.toList.map fun p=>a.eval p.2)[i]?=some u->bP K g m p.2 u:=fun i p u hp hu=>by
  obtain⟨z1,z2⟩:=Ip i p hp;rw[List.getElem?_map]at hu
  cases hq:parts.toList[i]? with
  |none=>rw[hq]at hu;cases hu
  |some q=>rw[hq]at hu;cases hu;exact e2 i q p.2 hq z2
 have hzip:(parts.toList.map Prod.fst).zip (parts.toList.map fun p=>a.eval p.2)=(parts.map fun(x:Nat×Operand)=>(x.1,a.eval x.2)).toList:=by
  rw[Array.toList_map,List.zip_map']
 have fin:∀{place:Nat->Option (Nat×Nat)},jI place ti.zero ((parts.toList.map Prod.fst).zip xs)=some cs->(∀cells,Instr.fill place (zeroOf ti).cells (parts.map fun(x:Nat×Operand)=>(x.1,a.eval x.2)).toList=some cells->P.built t (parts.map fun(x:Nat×Operand)=>(x.1,a.eval x.2)).toList=some cells)->∃u,(execOp a.eval o).run P m.w=.ok (.value u) m.w/\bP K g m (.agg cs) u:=fun{place} hf hb=>by
  obtain⟨ws',k1,k2⟩:=xq (K:=K) (g:=g) (m:=m) place (us:=parts.toList.map fun p=>a.eval p.2) hf (kQ hty.VO) (by rw[hzl];simp) hval;rw[hmap,hzip]at k1;have hz:(jc ti.zero).toArray=(zeroOf ti).cells:=by rw[<- mh hty]
  rw[hz]at k1;have hrun:=run_build (P:=P) m.w t (parts.map fun(x:Nat×Operand)=>(x.1,a.eval x.2)) _ (hb _ k1);exact⟨.agg ws'.toArray,by simp only[execOp,ho,Sem.run_bind,hrun,Result.andThen_ok,Sem.run_pure],by simp only[bP];exact⟨ws',rfl,k2⟩⟩
 split at hf
 . rename_i fs hd
   rw[hd]at htd
   obtain⟨fields,hu,hfs⟩:=yz htd
   refine fin hf fun cells hc=>?_
   simp only[Program.built,i1,hu,i2,yy hfs]
   rw[<- hc]
   congr 1
   funext i
   simp
 . rename_i n e hd
   rw[hd]at htd
   obtain⟨ei,hei,hf'⟩:=aa.1 hf
   obtain⟨inf',j1,j2,j3,j4⟩:=info_parts (hT.ty e ei hei).info
   have hu:P.underlying t=some (.array n e):=htd
   refine fin hf' fun cells hc=>?_
   simp only[Program.built,i1,hu,i2,j1,j3]
   exact hc
 . cases hf
theorem zN{a:Act}:∀{l:List Operand} {xs:List (AV S)} {vs:List (CV S)},tE xs=some vs->oT K g m a l xs->iK K g m vs (l.map a.eval)
 |[],xs,vs,h,ho=>by simp only[oT]at ho;subst ho;simp only[tE,af]at h;subst h;simp only[iK,bp]
 |x::l,xs,vs,h,ho=>by
  obtain⟨v,vs',rfl,h1,h2⟩:=ho
  cases v with
  |one w=>
   simp only[tE]at h
   obtain⟨ws,hw,rfl⟩:=ab.1 h
   simp only[bP]at h1
   simp only[iK,aF]
   exact⟨_,_,rfl,.inl h1,zN hw h2⟩
  |agg us=>
   simp only[tE]at h
   obtain⟨ws,hw,rfl⟩:=ab.1 h
   simp only[bP]at h1
   obtain⟨cs,e1,h1⟩:=h1
   simp only[iK,aF]
   exact⟨_,_,rfl,.inr (by simp only[Q0];exact⟨cs,e1,xe.2 h1⟩),zN hw h2⟩
  |dD _=>cases h
theorem Fc:∀{vs:List (CV S)} {us:List Value} (n:Nat),iK K g m vs us->iK K g m (vs.take n) (us.take n)/\iK K g m (vs.drop n) (us.drop n)
 |[],us,n,h=>by simp only[iK]at h;subst h;simp[iK]
 |v::vs,us,0,h=>by simp only[List.take_zero,List.drop_zero];exact⟨by simp only[iK],h⟩
 |v::vs,us,n+1,h=>by
  simp only[iK]at h;obtain⟨u,us',rfl,h1,h2⟩:=h;obtain⟨k1,k2⟩:=Fc n h2;simp only[List.take_succ_cons,List.drop_succ_cons,iK];exact⟨⟨u,_,rfl,h1,k1⟩,k2⟩
theorem tB{f:Fn}{first cap:Array Operand}(ho:o.op=.makeFunc f first cap){vs:List (CV S)}(hv:tE xs=some vs)(h:k (val (.fn f (vs.take first.size) (vs.drop first.size)))=some r):dT P K o xs ob ct k r:=by
 have hox:o.op.operands.toList=first.toList++cap.toList:=by rw[ho];simp[Op.operands]
 refine⟨_,h,eC fun g a m ha=>?_⟩;rw[hox]at ha;have h1:=zN hv ha;obtain⟨k1,k2⟩:=Fc first.size h1;have hl:(first.toList.map a.eval).length=first.size:=by simp
 rw[bB]at k1 k2;rw[<- hl,List.take_left,hl]at k1;rw[<- hl,List.drop_left,hl]at k2;refine⟨.func f (first.map a.eval) (cap.map a.eval),by simp[execOp,ho,Instr.makeFunc],?_⟩;simp only[val,bP,bM];exact⟨_,_,by rw[<- aX,<- aX],k1,k2⟩
theorem Zw{x y:Operand}{ts:Array TypeId}(ho:o.op=.call ⟨.builtin .min,#[x,y],ts⟩){v w:CV S}{p q:IntKind×Int}(hp:num v=some p)(hq:num w=some q)(h:k (val (qL p.1 (ib p.2 q.2)))=some r)(hk:p.1=q.1):dT P K o [.one v,.one w] ob ct k r:=by
 have hox:o.op.operands.toList=[x,y]:=by rw[ho];rfl
 refine lZ hox h fun g a m hv hw=>?_
 simp only[bP]at hw;obtain⟨hx,hx8⟩:=rP (k:=p.1) (x:=p.2) hp hv;obtain⟨hy,hy8⟩:=rP (k:=q.1) (x:=q.2) hq hw;refine bI.val (v:=.int p.1 (ib p.2 q.2)) ?_ ⟨rfl,?_⟩
 . simp[execOp,ho,resolve,invoke,builtin,hx,hy,Builtin.min_,Builtin.min2,ib]
 . simp only[val,bP];refine zG fun e=>?_
   obtain⟨c,hc⟩:=hx8 e;obtain⟨d,hd⟩:=hy8 (hk▸e);rw[hc,hd];have h1:=c.toNat_lt;have h2:=d.toNat_lt;rw[oO];unfold ib;split<;>omega
theorem Zv{x y:Operand}{ts:Array TypeId}(ho:o.op=.call ⟨.builtin .max,#[x,y],ts⟩){v w:CV S}{p q:IntKind×Int}(hp:num v=some p)(hq:num w=some q)(h:k (val (qL p.1 (imax p.2 q.2)))=some r)(hk:p.1=q.1):dT P K o [.one v,.one w] ob ct k r:=by
 have hox:o.op.operands.toList=[x,y]:=by rw[ho];rfl
 refine lZ hox h fun g a m hv hw=>?_
 simp only[bP]at hw;obtain⟨hx,hx8⟩:=rP (k:=p.1) (x:=p.2) hp hv;obtain⟨hy,hy8⟩:=rP (k:=q.1) (x:=q.2) hq hw;refine bI.val (v:=.int p.1 (imax p.2 q.2)) ?_ ⟨rfl,?_⟩
 . simp[execOp,ho,resolve,invoke,builtin,hx,hy,Builtin.max_,Builtin.max2,imax]
 . simp only[val,bP];refine zG fun e=>?_
   obtain⟨c,hc⟩:=hx8 e;obtain⟨d,hd⟩:=hy8 (hk▸e);rw[hc,hd];have h1:=c.toNat_lt;have h2:=d.toNat_lt;rw[oO];unfold imax;split<;>omega
end E
end
section
open Go.RowKit G
namespace E
variable {S:Nat->Type}{tb:Tb S}{K:ep tb}{g:GG S}{m:Mem}
def Sub(mp mp':List (Nat×Nat)):Prop:=∀o q,look o mp=some q->look o mp'=some q
theorem Sub.refl(mp:List (Nat×Nat)):Sub mp mp:=fun _ _ h=>h
theorem Sub.trans{a b c:List (Nat×Nat)}(h:Sub a b)(k:Sub b c):Sub a c:=fun o q hq=>k o q (h o q hq)
structure jr(mp:List (Nat×Nat)):Prop where
 inj:∀o o' q,look o mp=some q->look o' mp=some q->o=o'
 small:∀o q,look o mp=some q->o<=200
theorem jr.nil:jr []:=⟨fun _ _ _ h _=>by simp[look]at h,fun _ _ h=>by simp[look]at h⟩
theorem bN{α:Type}{t u:Nat}{x:α}{l:List (Nat×α)}:look t ((u,x)::l)=if u=t then some x else look t l:=by
 show(match Nat.beq u t with|true=>some x|false=>look t l)=_;by_cases e:u=t
 . subst e;simp
 . rw[mT e,if_neg e]
theorem gl{α:Type}:∀{l:List (Nat×α)} {t:Nat} {x:α},look t l=some x->(t,x)∈l
 |[],_,_,h=>by cases h
 |(u,y)::l,t,x,h=>by
  rw[bN]at h;by_cases e:u=t
  . rw[if_pos e]at h;cases h;subst e;exact aq
  . rw[if_neg e]at h;exact au _ (gl h)
theorem fh{mp mp':List (Nat×Nat)}{o q:Nat}(h:Xu mp o q=some mp'):Sub mp mp'/\(jr mp->jr mp')/\look o mp'=some q:=by
 unfold Xu at h;split at h
 . rename_i r hr;split at h
   . rename_i he;cases h;exact⟨Sub.refl _,id,by rw[hr,ah he]⟩
   . cases h
 . rename_i hn;split at h
   . cases h
   . rename_i hb;cases h;simp only[Bool.or_eq_false_iff,Bool.not_eq_false']at hb;have hq:∀o',look o' mp≠some q:=fun o' h'=>by
      have:=List.any_eq_false.1 hb.1 _ (gl h');simp at this
     refine⟨fun o' q' h'=>?_,fun hM=>⟨fun a b r ha hb'=>?_,fun a r ha=>?_⟩,by rw[bN,if_pos rfl]⟩
     . rw[bN];by_cases e:o=o'
       . subst e;rw[hn]at h';cases h'
       . rw[if_neg e];exact h'
     . rw[bN]at ha hb';by_cases e:o=a
       . rw[if_pos e]at ha;cases ha;by_cases e':o=b
         . omega
         . rw[if_neg e']at hb';exact absurd hb' (hq _)
       . rw[if_neg e]at ha;by_cases e':o=b
         . rw[if_pos e']at hb';cases hb';exact absurd ha (hq _)
         . rw[if_neg e']at hb';exact hM.inj a b r ha hb'
     . rw[bN]at ha;by_cases e:o=a
       . subst e;exact aj hb.2
       . rw[if_neg e]at ha;exact hM.small a r ha
def Ren(mp:List (Nat×Nat))(g g':GG S)(ids:Nat->Nat):Prop:=∀o q h,look o mp=some q->g.bk q=some h->g'.bk (ids o)=some h
theorem Ren.sub{mp mp':List (Nat×Nat)}{g g':GG S}{ids:Nat->Nat}(h:Ren mp' g g' ids)(k:Sub mp mp'):Ren mp g g' ids:=fun o q x ho hx=>h o q x (k o q ho) hx
theorem Gy:∀{vs:List (CV S)} {us:List Value},vs.all nag=true->iK K g m vs us->cJ K g m vs us
 |[],_,_,h=>by simp only[iK]at h;exact h
 |v::vs,_,hn,h=>by
  simp only[List.all_cons,al]at hn;simp only[iK]at h;obtain⟨u,us',rfl,h1,h2⟩:=h;have h1:bM K g m v [u]:=h1.resolve_right fun h=>by cases v<;>first|(simp only[Q0]at h;done)|(have:=hn.1;cases this)
  exact⟨[u],us',rfl,h1,Gy hn.2 h2⟩
theorem GA:∀{vs:List (CV S)} {us:List Value},vs.all WT=true->cJ K g m vs us->iK K g m vs us
 |[],_,_,h=>by simp only[iK];exact h
 |v::vs,_,hn,⟨c1,c2,rfl,h1,h2⟩=>by
  simp only[List.all_cons,al,WT]at hn;have hl:=h1.len;rw[ah hn.1]at hl
  match c1,hl with
  |[u],_=>
   simp only[iK]
   exact⟨u,c2,rfl,.inl h1,GA hn.2 h2⟩
def XD(K:ep tb)(g:GG S)(m:Mem)(mp:List (Nat×Nat))(ds:List (ic S))(us:List Value)(fill:(Nat->Nat)->List (ic S)->Option (List (CV S)×List (ic S))):Prop:=
 ∀(g':GG S) (ids:Nat->Nat) (ds0:List (ic S)) (ws:List (CV S)) (ds1:List (ic S)),Ren mp g g' ids->fill ids (ds++ds0)=some (ws,ds1)->ds1=ds0/\cJ K g' m ws us
mutual
theorem CS.lL:∀{s:CS} {mp mp':List (Nat×Nat)} {vs vs':List (CV S)} {ds:List (ic S)} {us:List Value},CS.take tb mp s vs=some (ds,vs',mp')->cJ K g m vs us->
 Sub mp mp'/\(jr mp->jr mp')/\∃c1 c2,us=c1++c2/\cJ K g m vs' c2/\XD K g m mp' ds c1 (fun ids=>CS.fill tb ids s)
 |.eX c,mp,mp',vs,vs',ds,us,h,hv=>by
  simp only[CS.take]at h;obtain⟨p,hp,h⟩:=ab.1 h;obtain⟨x,r⟩:=p;simp only[aA]at h;obtain⟨rfl,rfl,rfl⟩:=h;obtain⟨c1,c2,e,h1,h2⟩:=X0 hp hv;refine⟨Sub.refl _,id,c1,c2,e,h2,fun g' ids ds0 ws ds1 hR hf=>?_⟩;simp only[aV,aO,CS.fill]at hf;split at hf
  . cases hf;exact⟨rfl,Am h1⟩
  . cases hf
 |.rw o c,mp,mp',vs,vs',ds,us,h,hv=>by
  cases vs with
  |nil=>simp[CS.take]at h
  |cons v vs=>
   cases v<;>first|(simp[CS.take]at h;done)|skip
   rename_i q d l
   simp only[CS.take]at h
   split at h
   . rename_i hd _
     subst hd
     obtain⟨mp1,hu,h⟩:=ab.1 h
     simp only[aA]at h
     obtain⟨rfl,rfl,rfl⟩:=h
     obtain⟨k1,k2,k3⟩:=fh hu
     obtain⟨c1,c2,e,h1,h2⟩:=hv
     refine⟨k1,k2,c1,c2,e,h2,fun g' ids ds0 ws ds1 hR hf=>?_⟩
     simp only[aV,aO,CS.fill]at hf
     split at hf
     . cases hf
       refine⟨rfl,jd ?_⟩
       simp only[bM]at h1 ⊢
       obtain⟨gh,l0,ad,j1,j2,j3,j4⟩:=h1
       exact⟨gh,l0,ad,hR _ _ _ k3 j1,j2,j3,j4⟩
     . cases hf
   . cases h
 |.aw o,mp,mp',vs,vs',ds,us,h,hv=>by
  cases vs with
  |nil=>simp[CS.take]at h
  |cons v vs=>
   cases v<;>first|(simp[CS.take]at h;done)|skip
   rename_i q
   simp only[CS.take]at h
   obtain⟨mp1,hu,h⟩:=ab.1 h
   simp only[aA]at h
   obtain⟨rfl,rfl,rfl⟩:=h
   obtain⟨k1,k2,k3⟩:=fh hu
   obtain⟨c1,c2,e,h1,h2⟩:=hv
   refine⟨k1,k2,c1,c2,e,h2,fun g' ids ds0 ws ds1 hR hf=>?_⟩
   simp only[aO,CS.fill]at hf
   cases hf
   refine⟨rfl,jd ?_⟩
   simp only[bM]at h1 ⊢
   obtain⟨gh,j1,j2⟩:=h1
   exact⟨gh,hR _ _ _ k3 j1,j2⟩
 |.ptr o off,mp,mp',vs,vs',ds,us,h,hv=>by
  cases vs with
  |nil=>simp[CS.take]at h
  |cons v vs=>
   cases v<;>first|(simp[CS.take]at h;done)|skip
   rename_i q off'
   simp only[CS.take]at h
   split at h
   . rename_i he
     obtain rfl:=ah he
     obtain⟨mp1,hu,h⟩:=ab.1 h
     simp only[aA]at h
     obtain⟨rfl,rfl,rfl⟩:=h
     obtain⟨k1,k2,k3⟩:=fh hu
     obtain⟨c1,c2,e,h1,h2⟩:=hv
     refine⟨k1,k2,c1,c2,e,h2,fun g' ids ds0 ws ds1 hR hf=>?_⟩
     simp only[aO,CS.fill]at hf
     cases hf
     refine⟨rfl,jd ?_⟩
     simp only[bM]at h1 ⊢
     obtain⟨gh,b,j1,j2⟩:=h1
     exact⟨gh,b,hR _ _ _ k3 j1,j2⟩
   . cases h
 |.kG,mp,mp',vs,vs',ds,us,h,hv=>by
  cases vs with
  |nil=>simp[CS.take]at h
  |cons v vs=>
   cases v<;>first|(simp[CS.take]at h;done)|skip
   simp only[CS.take,af,aA]at h
   obtain⟨rfl,rfl,rfl⟩:=h
   obtain⟨c1,c2,e,h1,h2⟩:=hv
   refine⟨Sub.refl _,id,c1,c2,e,h2,fun g' ids ds0 ws ds1 hR hf=>?_⟩
   simp only[aO,CS.fill]at hf
   cases hf
   refine⟨rfl,jd ?_⟩
   simp only[bM]at h1 ⊢; exact h1
 |.fB,mp,mp',vs,vs',ds,us,h,hv=>by
  cases vs with
  |nil=>simp[CS.take]at h
  |cons v vs=>
   cases v<;>first|(simp[CS.take]at h;done)|skip
   simp only[CS.take,af,aA]at h
   obtain⟨rfl,rfl,rfl⟩:=h
   obtain⟨c1,c2,e,h1,h2⟩:=hv
   refine⟨Sub.refl _,id,c1,c2,e,h2,fun g' ids ds0 ws ds1 hR hf=>?_⟩
   simp only[aO,CS.fill]at hf
   cases hf
   refine⟨rfl,jd ?_⟩
   simp only[bM]at h1 ⊢; exact h1
 |.fg,mp,mp',vs,vs',ds,us,h,hv=>by
  cases vs with
  |nil=>simp[CS.take]at h
  |cons v vs=>
   cases v<;>first|(simp[CS.take]at h;done)|skip
   simp only[CS.take,af,aA]at h
   obtain⟨rfl,rfl,rfl⟩:=h
   obtain⟨c1,c2,e,h1,h2⟩:=hv
   refine⟨Sub.refl _,id,c1,c2,e,h2,fun g' ids ds0 ws ds1 hR hf=>?_⟩
   simp only[aO,CS.fill]at hf
   cases hf
   refine⟨rfl,jd ?_⟩
   simp only[bM]at h1 ⊢; exact h1
 |.tt b,mp,mp',vs,vs',ds,us,h,hv=>by
  cases vs with
  |nil=>simp[CS.take]at h
  |cons v vs=>
   cases v<;>first|(simp[CS.take]at h;done)|skip
   rename_i c
   simp only[CS.take]at h
   split at h
   . rename_i hb
     have hb:=eq_of_beq hb
     subst hb
     simp only[af,aA]at h
     obtain⟨rfl,rfl,rfl⟩:=h
     obtain⟨c1,c2,e,h1,h2⟩:=hv
     refine⟨Sub.refl _,id,c1,c2,e,h2,fun g' ids ds0 ws ds1 hR hf=>?_⟩
     simp only[aO,CS.fill]at hf
     cases hf
     refine⟨rfl,jd ?_⟩
     simp only[bM]at h1 ⊢; exact h1
   . cases h
 |.yl o,mp,mp',vs,vs',ds,us,h,hv=>by
  cases vs with
  |nil=>simp[CS.take]at h
  |cons v vs=>
   cases v<;>first|(simp[CS.take]at h;done)|skip
   rename_i q
   simp only[CS.take]at h
   obtain⟨mp1,hu,h⟩:=ab.1 h
   simp only[aA]at h
   obtain⟨rfl,rfl,rfl⟩:=h
   obtain⟨k1,k2,k3⟩:=fh hu
   obtain⟨c1,c2,e,h1,h2⟩:=hv
   refine⟨k1,k2,c1,c2,e,h2,fun g' ids ds0 ws ds1 hR hf=>?_⟩
   simp only[aO,CS.fill]at hf
   cases hf
   refine⟨rfl,jd ?_⟩
   simp only[bM]at h1 ⊢
   obtain⟨gh,b,j1,j2⟩:=h1
   exact⟨gh,b,hR _ _ _ k3 j1,j2⟩
 |.mpo o,mp,mp',vs,vs',ds,us,h,hv=>by
  cases vs with
  |nil=>simp[CS.take]at h
  |cons v vs=>
   cases v<;>first|(simp[CS.take]at h;done)|skip
   rename_i q
   simp only[CS.take]at h
   obtain⟨mp1,hu,h⟩:=ab.1 h
   simp only[aA]at h
   obtain⟨rfl,rfl,rfl⟩:=h
   obtain⟨k1,k2,k3⟩:=fh hu
   obtain⟨c1,c2,e,h1,h2⟩:=hv
   refine⟨k1,k2,c1,c2,e,h2,fun g' ids ds0 ws ds1 hR hf=>?_⟩
   simp only[aO,CS.fill]at hf
   cases hf
   refine⟨rfl,jd ?_⟩
   simp only[bM]at h1 ⊢
   obtain⟨gh,b,j1,j2⟩:=h1
   exact⟨gh,b,hR _ _ _ k3 j1,j2⟩
 |.fn f xs ys,mp,mp',vs,vs',ds,us,h,hv=>by
  cases vs with
  |nil=>simp[CS.take]at h
  |cons v vs=>
   cases v<;>first|(simp[CS.take]at h;done)|skip
   rename_i fn first caps
   cases fn<;>first|(simp[CS.take]at h;done)|skip
   rename_i gf
   simp only[CS.take]at h
   split at h
   . rename_i he
     simp only[al]at he
     obtain⟨he,he1,he2⟩:=he
     obtain rfl:=ah he
     obtain⟨p,hp,h⟩:=aa.1 h
     obtain⟨pd,pv,pm⟩:=p
     split at h
     . rename_i hpv
       simp only at hpv
       subst hpv
       obtain⟨q,hq,h⟩:=aa.1 h
       obtain⟨qd,qv,qm⟩:=q
       split at h
       . rename_i hqv
         simp only at hqv
         subst hqv
         simp only[af,aA]at h
         obtain⟨rfl,rfl,rfl⟩:=h
         obtain⟨c1,c2,e,h1,h2⟩:=hv
         simp only[bM]at h1
         obtain⟨v1,v2,rfl,g1,g2⟩:=h1
         obtain⟨a1,a2,b1,b2,a3,a4,a5⟩:=CS.kf hp (Gy he1 g1)
         obtain⟨d1,d2,e1,e2,d3,d4,d5⟩:=CS.kf hq (Gy he2 g2)
         simp only[cJ]at a4 d4
         subst a4;subst d4
         simp only[aW]at a3 d3
         subst a3;subst d3
         refine⟨a1.trans d1,fun hM=>d2 (a2 hM),_,c2,e,h2,fun g' ids ds0 ws ds1 hR hf=>?_⟩
         simp only[az,CS.fill]at hf
         obtain⟨p1,hp1,hf⟩:=aa.1 hf
         obtain⟨q1,hq1,hf⟩:=aa.1 hf
         obtain⟨w1,r1⟩:=p1
         obtain⟨w2,r2⟩:=q1
         obtain⟨rfl,k2⟩:=a5 g' ids _ _ _ (hR.sub d1) hp1
         obtain⟨rfl,l2⟩:=d5 g' ids _ _ _ hR hq1
         split at hf
         . rename_i hone
           simp only[al]at hone
           cases hf
           refine⟨rfl,jd ?_⟩
           simp only[bM]
           exact⟨v1,v2,rfl,GA hone.1 k2,GA hone.2 l2⟩
         . cases hf
       . cases h
     . cases h
   . cases h
theorem CS.kf:∀{l:List CS} {mp mp':List (Nat×Nat)} {vs vs':List (CV S)} {ds:List (ic S)} {us:List Value},CS.takes tb mp l vs=some (ds,vs',mp')->cJ K g m vs us->
 Sub mp mp'/\(jr mp->jr mp')/\∃c1 c2,us=c1++c2/\cJ K g m vs' c2/\XD K g m mp' ds c1 (fun ids=>CS.eS tb ids l)
 |[],mp,mp',vs,vs',ds,us,h,hv=>by
  simp only[CS.takes,af,aA]at h;obtain⟨rfl,rfl,rfl⟩:=h;refine⟨Sub.refl _,id,[],us,rfl,hv,fun g' ids ds0 ws ds1 hR hf=>?_⟩;simp only[aO,CS.eS]at hf;cases hf;exact⟨rfl,rfl⟩
 |s::l,mp,mp',vs,vs',ds,us,h,hv=>by
  simp only[CS.takes]at h;obtain⟨p,hp,h⟩:=aa.1 h;obtain⟨pd,pv,pm⟩:=p;obtain⟨q,hq,h⟩:=ab.1 h;obtain⟨qd,qv,qm⟩:=q;simp only[aA]at h;obtain⟨rfl,rfl,rfl⟩:=h;obtain⟨a1,a2,b1,b2,rfl,a4,a5⟩:=CS.lL hp hv;obtain⟨d1,d2,e1,e2,rfl,d4,d5⟩:=CS.kf hq a4;refine⟨a1.trans d1,fun hM=>d2 (a2 hM),b1++e1,e2,by rw[az],d4,fun g' ids ds0 ws ds1 hR hf=>?_⟩;simp only[az,CS.eS]at hf;obtain⟨p1,hp1,hf⟩:=aa.1 hf;obtain⟨q1,hq1,hf⟩:=ab.1 hf;obtain⟨w1,r1⟩:=p1;obtain⟨w2,r2⟩:=q1;obtain⟨rfl,k2⟩:=a5 g' ids _ _ _ (hR.sub d1) hp1;obtain⟨rfl,l2⟩:=d5 g' ids _ _ _ hR hq1;cases hf;exact⟨rfl,pb k2 l2⟩
end
def aai(K:ep tb)(g:GG S)(m:Mem)(mp:List (Nat×Nat))(ds:List (ic S))(x:Value)(fill:(Nat->Nat)->List (ic S)->Option (AV S×List (ic S))):Prop:=
 ∀(g':GG S) (ids:Nat->Nat) (ds0:List (ic S)) (w:AV S) (ds1:List (ic S)),Ren mp g g' ids->fill ids (ds++ds0)=some (w,ds1)->ds1=ds0/\bP K g' m w x
def Yh(K:ep tb)(g:GG S)(m:Mem)(mp:List (Nat×Nat))(ds:List (ic S))(xs:List Value)(fill:(Nat->Nat)->List (ic S)->Option (List (AV S)×List (ic S))):Prop:=
 ∀(g':GG S) (ids:Nat->Nat) (ds0:List (ic S)) (ws:List (AV S)) (ds1:List (ic S)),Ren mp g g' ids->fill ids (ds++ds0)=some (ws,ds1)->ds1=ds0/\db K g' m ws xs
mutual
theorem PS.lL:∀{s:PS} {mp mp':List (Nat×Nat)} {v:AV S} {ds:List (ic S)} {x:Value},PS.take tb mp s v=some (ds,mp')->bP K g m v x->
 Sub mp mp'/\(jr mp->jr mp')/\aai K g m mp' ds x (fun ids=>PS.fill tb ids s)
 |.one s,mp,mp',v,ds,x,h,hv=>by
  cases v with
  |agg _=>simp[PS.take]at h
  |dD _=>simp[PS.take]at h
  |one v=>
   simp only[PS.take]at h
   obtain⟨p,hp,h⟩:=aa.1 h
   obtain⟨pd,pv,pm⟩:=p
   split at h
   . rename_i hpv
     simp only at hpv
     subst hpv
     simp only[af,aA]at h
     obtain⟨rfl,rfl⟩:=h
     simp only[bP]at hv
     obtain⟨a1,a2,b1,b2,a3,a4,a5⟩:=CS.lL hp (jd hv)
     simp only[cJ]at a4
     subst a4
     rw[aW]at a3
     subst a3
     refine⟨a1,a2,fun g' ids ds0 w ds1 hR hf=>?_⟩
     simp only[PS.fill]at hf
     obtain⟨q,hq,hf2⟩:=aa.1 hf
     obtain⟨qv,qd⟩:=q
     clear hf
     obtain⟨rfl,k2⟩:=a5 g' ids _ _ _ hR hq
     split at hf2
     . rename_i hqv
       simp only at hqv
       subst hqv
       cases hf2
       refine⟨rfl,?_⟩
       simp only[bP];exact mB k2
     . cases hf2
   . cases h
 |.agg l,mp,mp',v,ds,x,h,hv=>by
  cases v with
  |one _=>simp[PS.take]at h
  |dD _=>simp[PS.take]at h
  |agg vs=>
   simp only[PS.take]at h
   obtain⟨p,hp,h⟩:=aa.1 h
   obtain⟨pd,pv,pm⟩:=p
   split at h
   . rename_i hpv
     simp only at hpv
     subst hpv
     simp only[af,aA]at h
     obtain⟨rfl,rfl⟩:=h
     simp only[bP]at hv
     obtain⟨cs,rfl,hv⟩:=hv
     obtain⟨a1,a2,b1,b2,a3,a4,a5⟩:=CS.kf hp hv
     simp only[cJ]at a4
     subst a4
     rw[aW]at a3
     subst a3
     refine⟨a1,a2,fun g' ids ds0 w ds1 hR hf=>?_⟩
     simp only[PS.fill]at hf
     obtain⟨q,hq,hf2⟩:=ab.1 hf
     obtain⟨qv,qd⟩:=q
     clear hf
     obtain⟨rfl,k2⟩:=a5 g' ids _ _ _ hR hq
     cases hf2
     refine⟨rfl,?_⟩
     simp only[bP];exact⟨_,rfl,k2⟩
   . cases h
 |.dD l,mp,mp',v,ds,x,h,hv=>by
  cases v with
  |one _=>simp[PS.take]at h
  |agg _=>simp[PS.take]at h
  |dD vs=>
   simp only[PS.take]at h
   simp only[bP]at hv
   obtain⟨xs,rfl,hv⟩:=hv
   obtain⟨a1,a2,a3⟩:=PS.kf h hv
   refine⟨a1,a2,fun g' ids ds0 w ds1 hR hf=>?_⟩
   simp only[PS.fill]at hf
   obtain⟨q,hq,hf2⟩:=ab.1 hf
   obtain⟨qv,qd⟩:=q
   clear hf
   obtain⟨rfl,k2⟩:=a3 g' ids _ _ _ hR hq
   cases hf2
   refine⟨rfl,?_⟩
   simp only[bP];exact⟨_,rfl,k2⟩
theorem PS.kf:∀{l:List PS} {mp mp':List (Nat×Nat)} {vs:List (AV S)} {ds:List (ic S)} {xs:List Value},PS.takes tb mp l vs=some (ds,mp')->db K g m vs xs->
 Sub mp mp'/\(jr mp->jr mp')/\Yh K g m mp' ds xs (fun ids=>PS.eS tb ids l)
 |[],mp,mp',vs,ds,xs,h,hv=>by
  cases vs with
  |cons _ _=>simp[PS.takes]at h
  |nil=>
   simp only[PS.takes,af,aA]at h
   obtain⟨rfl,rfl⟩:=h
   refine⟨Sub.refl _,id,fun g' ids ds0 ws ds1 hR hf=>?_⟩
   simp only[aO,PS.eS]at hf
   cases hf
   refine⟨rfl,?_⟩
   simp only[db]at hv ⊢
   exact hv
 |s::l,mp,mp',vs,ds,xs,h,hv=>by
  cases vs with
  |nil=>simp[PS.takes]at h
  |cons v vs=>
   simp only[PS.takes]at h
   obtain⟨p,hp,h⟩:=aa.1 h
   obtain⟨pd,pm⟩:=p
   obtain⟨q,hq,h⟩:=ab.1 h
   obtain⟨qd,qm⟩:=q
   simp only[aA]at h
   obtain⟨rfl,rfl⟩:=h
   simp only[db]at hv
   obtain⟨x,r,rfl,hv1,hv2⟩:=hv
   obtain⟨a1,a2,a3⟩:=PS.lL hp hv1
   obtain⟨b1,b2,b3⟩:=PS.kf hq hv2
   refine⟨a1.trans b1,fun hM=>b2 (a2 hM),fun g' ids ds0 ws ds1 hR hf=>?_⟩
   simp only[az,PS.eS]at hf
   obtain⟨p1,hp1,hf⟩:=aa.1 hf
   obtain⟨q1,hq1,hf⟩:=ab.1 hf
   obtain⟨w1,r1⟩:=p1
   obtain⟨w2,r2⟩:=q1
   obtain⟨rfl,k2⟩:=a3 g' ids _ _ _ (hR.sub b1) hp1
   obtain⟨rfl,l2⟩:=b3 g' ids _ _ _ hR hq1
   cases hf
   refine⟨rfl,?_⟩
   simp only[db];exact⟨x,r,rfl,k2,l2⟩
end
def aah(K:ep tb)(g:GG S)(m:Mem)(mp:List (Nat×Nat))(ds:List (ic S))(q:Nat)(e:bR)(fill:(Nat->Nat)->List (ic S)->Option (AO S×List (ic S))):Prop:=
 ∀(g':GG S) (ids:Nat->Nat) (q':Nat) (ds0:List (ic S)) (a':AO S) (ds1:List (ic S)),Ren mp g g' ids->(∀h,g.bk q=some h->g'.bk q'=some h)->fill ids (ds++ds0)=some (a',ds1)->ds1=ds0/\iY K g' m q' a' e
theorem wE{tm:List (Nat×Nat×AV S)}{val:Nat->Value}(htm:∀t bT v,look t tm=some (bT,v)->bP K g m v (val t)):∀{l:List (Nat×PS)} {mp mp':List (Nat×Nat)} {ds:List (ic S)},nD tb tm mp l=some (ds,mp')->
 Sub mp mp'/\(jr mp->jr mp')/\∀(g':GG S) (ids:Nat->Nat) (vid0:Nat) (ds0:List (ic S)) (tl:List (Nat×Nat×AV S)) (ds1:List (ic S)),Ren mp' g g' ids->uC tb ids vid0 l (ds++ds0)=some (tl,ds1)->
  ds1=ds0/\tl.length=l.length/\∀i x,tl[i]?=some x->x.2.1=vid0+i/\bP K g' m x.2.2 (val x.1)/\∃y,look x.1 tm=some y
 |[],mp,mp',ds,h=>by
  simp only[nD,af,aA]at h;obtain⟨rfl,rfl⟩:=h;refine⟨Sub.refl _,id,fun g' ids vid0 ds0 tl ds1 hR hf=>?_⟩;simp only[aO,uC]at hf;cases hf;exact⟨rfl,rfl,fun i x hx=>by simp at hx⟩
 |(t,s)::l,mp,mp',ds,h=>by
  simp only[nD]at h;obtain⟨a,ha,h⟩:=aa.1 h;obtain⟨p,hp,h⟩:=aa.1 h;obtain⟨r,hr,h⟩:=ab.1 h;obtain⟨bT,v⟩:=a;obtain⟨pd,pm⟩:=p;obtain⟨rd,rm⟩:=r;simp only[aA]at h;obtain⟨rfl,rfl⟩:=h;obtain⟨a1,a2,a3⟩:=PS.lL hp (htm t bT v ha);obtain⟨b1,b2,b3⟩:=wE htm hr;refine⟨a1.trans b1,fun hM=>b2 (a2 hM),fun g' ids vid0 ds0 tl ds1 hR hf=>?_⟩;simp only[az,uC]at hf;obtain⟨p1,hp1,hf1⟩:=aa.1 hf;obtain⟨q1,hq1,hf2⟩:=ab.1 hf1;obtain⟨w1,r1⟩:=p1;obtain⟨w2,r2⟩:=q1;clear hf hf1;obtain⟨rfl,k2⟩:=a3 g' ids _ _ _ (hR.sub b1) hp1;obtain⟨rfl,l2,l3⟩:=b3 g' ids _ _ _ _ hR hq1;simp only[af,aA]at hf2;obtain⟨rfl,rfl⟩:=hf2;refine⟨rfl,by simp[l2],fun i x hx=>?_⟩
  cases i with
  |zero=>simp at hx;subst hx;exact⟨rfl,k2,_,ha⟩
  |succ i=>
   obtain⟨j1,j2⟩:=l3 i x (by simpa using hx)
   exact⟨by rw[j1];omega,j2⟩
theorem LS.OO{a b:LS}(h:LS.same a b=true):a=b:=by
 unfold LS.same at h;split at h<;>first|rfl|(cases h;done)|skip;rw[ah h]
theorem FC{α:Type}{t:Nat}:∀{l:List (Nat×α)} {x:α},look t l=some x->(t,x)∈l
 |[],x,h=>by cases h
 |(u,y)::l,x,h=>by
  unfold look at h;split at h
  . rename_i e;cases h;rw[ah e];exact aq
  . exact au _ (FC h)
theorem S1{α:Type}{t:Nat}{x:α}{l:List (Nat×α)}(h:look t l=some x):∃i:Nat,l[i]?=some (t,x):=List.getElem?_of_mem (FC h)
theorem OS.lL{s:OS}{mp mp':List (Nat×Nat)}{a:AO S}{ds:List (ic S)}{q:Nat}{e:bR}(h:OS.take tb mp s a=some (ds,mp'))(ha:iY K g m q a e):
 Sub mp mp'/\(jr mp->jr mp')/\aah K g m mp' ds q e (fun ids=>OS.fill tb ids s):=by
 cases s with
 |box T l=>
  cases a<;>first|(simp[OS.take]at h;done)|skip
  rename_i T' vs
  simp only[OS.take]at h
  split at h
  . rename_i he
    obtain rfl:=ah he
    obtain⟨p,hp,h⟩:=aa.1 h
    obtain⟨pd,pv,pm⟩:=p
    split at h
    . rename_i hpv
      simp only at hpv
      subst hpv
      simp only[af,aA]at h
      obtain⟨rfl,rfl⟩:=h
      obtain⟨gh,b,us,h1,h2,rfl,h4⟩:=ha
      obtain⟨a1,a2,b1,b2,a3,a4,a5⟩:=CS.kf hp h4
      simp only[cJ]at a4
      subst a4
      rw[aW]at a3
      subst a3
      refine⟨a1,a2,fun g' ids q' ds0 w ds1 hR hq hf=>?_⟩
      simp only[OS.fill]at hf
      obtain⟨r,hr,hf2⟩:=ab.1 hf
      obtain⟨rv,rd⟩:=r
      clear hf
      obtain⟨rfl,k2⟩:=a5 g' ids _ _ _ hR hr
      cases hf2
      exact⟨rfl,gh,b,_,hq _ h1,h2,rfl,k2⟩
    . cases h
  . cases h
 |row t c=>
  cases a<;>first|(simp[OS.take]at h;done)|skip
  rename_i t' c'
  simp only[OS.take]at h
  split at h
  . rename_i hc he _
    obtain rfl:=ah he
    subst hc
    simp only[af,aA]at h
    obtain⟨rfl,rfl⟩:=h
    obtain⟨gh,h1,rfl⟩:=ha
    refine⟨Sub.refl _,id,fun g' ids q' ds0 w ds1 hR hq hf=>?_⟩
    simp only[aO,OS.fill]at hf
    cases hf
    exact⟨rfl,gh,hq _ h1,rfl⟩
  . cases h
 |arr t c full=>
  cases a<;>first|(simp[OS.take]at h;done)|skip
  rename_i t' c' full' l
  simp only[OS.take]at h
  split at h
  . rename_i hc he _ hf'
    obtain rfl:=ah he
    subst hc
    have hfl:full=true->full'=true:=fun z=>by rw[z]at hf';simpa using hf'
    simp only[af,aA]at h
    obtain⟨rfl,rfl⟩:=h
    refine⟨Sub.refl _,id,fun g' ids q' ds0 w ds1 hR hq hf=>?_⟩
    simp only[aV,aO,OS.fill]at hf
    split at hf
    . cases hf
      obtain⟨gh,cs,h1,h2,h3,h4,h5⟩:=ha
      exact⟨rfl,gh,cs,hq _ h1,h2,h3,h4,fun z=>h5 (hfl z)⟩
    . cases hf
  . cases h
 |qE t et kc c=>
  cases a<;>first|(simp[OS.take]at h;done)|skip
  rename_i t' et' kc' c' l hole
  cases hole with
  |some x=>simp[OS.take]at h
  |none=>
  simp only[OS.take]at h
  split at h
  . rename_i hk hv he _ _
    simp only[al]at he
    obtain rfl:=ah he.1
    obtain rfl:=ah he.2
    subst hk;subst hv
    simp only[af,aA]at h
    obtain⟨rfl,rfl⟩:=h
    refine⟨Sub.refl _,id,fun g' ids q' ds0 w ds1 hR hq hf=>?_⟩
    simp only[aV,aO,OS.fill]at hf
    split at hf
    . cases hf
      obtain⟨gh,b,es,clock,ll,h1,h2,h3,h4,h5,h6⟩:=ha
      exact⟨rfl,gh,b,es,clock,ll,hq _ h1,h2,h3,h4,h5,h6⟩
    . cases hf
  . cases h
 |lD t kc vc qs=>
  cases a<;>first|(simp[OS.take]at h;done)|skip
  rename_i t' kc' vc' l hole q1
  cases hole with
  |some x=>simp[OS.take]at h
  |none=>
  simp only[OS.take]at h
  split at h
  . rename_i hk hv he _ _
    obtain rfl:=ah he
    subst hk;subst hv
    obtain⟨mp1,hu,h⟩:=ab.1 h
    simp only[aA]at h
    obtain⟨rfl,rfl⟩:=h
    refine⟨(fh hu).1,(fh hu).2.1,fun g' ids q' ds0 w ds1 hR hq hf=>?_⟩
    simp only[aV,aO,OS.fill]at hf
    split at hf
    . cases hf
      obtain⟨gh,b,es,gq,h1,h2,h3,h4,h5,h6,h7,h8⟩:=ha
      exact⟨rfl,gh,b,es,gq,hq _ h1,h2,hR _ _ _ (fh hu).2.2 h3,h4,h5,h6,h7,h8⟩
    . cases hf
  . cases h
 |sD kc os=>
  cases a<;>first|(simp[OS.take]at h;done)|skip
  rename_i kc' o1 st
  simp only[OS.take]at h
  split at h
  . rename_i hk _
    subst hk
    obtain⟨mp1,hu,h⟩:=ab.1 h
    simp only[aA]at h
    obtain⟨rfl,rfl⟩:=h
    refine⟨(fh hu).1,(fh hu).2.1,fun g' ids q' ds0 w ds1 hR hq hf=>?_⟩
    simp only[aO,OS.fill]at hf
    cases hf
    obtain⟨gh,go,r,seen,h1,h2,h3,h4,h5,h6⟩:=ha
    exact⟨rfl,gh,go,r,seen,hq _ h1,h2,hR _ _ _ (fh hu).2.2 h3,h4,h5,trivial⟩
  . cases h
 |map t kc vc=>
  cases a<;>first|(simp[OS.take]at h;done)|skip
  rename_i t' kc' vc' l hole
  cases hole with
  |some x=>simp[OS.take]at h
  |none=>
  simp only[OS.take]at h
  split at h
  . rename_i hk hv he _ _
    obtain rfl:=ah he
    subst hk;subst hv
    simp only[af,aA]at h
    obtain⟨rfl,rfl⟩:=h
    refine⟨Sub.refl _,id,fun g' ids q' ds0 w ds1 hR hq hf=>?_⟩
    simp only[aV,aO,OS.fill]at hf
    split at hf
    . cases hf
      obtain⟨gh,b,es,clock,h1,h2,h3,h4,h5⟩:=ha
      exact⟨rfl,gh,b,es,clock,hq _ h1,h2,h3,h4,h5⟩
    . cases hf
  . cases h
 |loop r st Q6=>
  cases a<;>first|(simp[OS.take]at h;done)|skip
  rename_i r' st' tm
  simp only[OS.take]at h
  split at h
  . rename_i hb
    simp only[al]at hb
    obtain rfl:=ah hb.1
    obtain rfl:=LS.OO hb.2
    obtain⟨gh,l,R,rg,tmps,h1,h2,h3,rfl,h5,h6,h7⟩:=ha
    obtain⟨s1,s2,s3⟩:=wE (val:=fun t=>tmps.getD t undef) h7 h
    refine⟨s1,s2,fun g' ids q' ds0 w ds1 hR hq hf=>?_⟩
    simp only[OS.fill]at hf
    obtain⟨p,hp,hf2⟩:=ab.1 hf
    obtain⟨pt,pd⟩:=p
    obtain⟨rfl,k2,k3⟩:=s3 g' ids _ _ _ _ hR hp
    cases hf2
    refine⟨rfl,gh,l,R,rg,tmps,hq _ h1,h2,h3,rfl,h5,h6,fun t bT v hl=>?_⟩
    obtain⟨i,hi⟩:=S1 hl
    exact(k3 i _ hi).2.1
  . cases h
def KN(K:ep tb)(g:GG S)(m:Mem)(ids:Nat->Nat):Nat->List (AO S)->List bR->Prop
 |_,[],L=>L=[]
 |o,a::l,L=>∃e L',L=e::L'/\iY K g m (ids o) a e/\KN K g m ids (o+1) l L'
theorem CL:∀{ls:List Co} {ds:List (ic S)} {x:HT S ls},su ls ds=some x->qB ls x=ds
 |[],[],x,h=>rfl
 |[],_::_,x,h=>by simp[su]at h
 |[c],[],x,h=>by simp[su]at h
 |[c],[⟨c',y⟩],x,h=>by
  simp only[su]at h;split at h
  . rename_i hc _;subst hc;cases h;rfl
  . cases h
 |[c],_::_::_,x,h=>by simp[su]at h
 |c::d::cs,[],x,h=>by simp[su]at h
 |c::d::cs,⟨c',y⟩::ds,x,h=>by
  simp only[su]at h;split at h
  . rename_i hc _;subst hc;obtain⟨z,hz,rfl⟩:=ab.1 h;simp only[qB,CL hz]
  . cases h
theorem uQ{α:Type}{l:List α}:∀{is:List Nat} {l':List α},FQ l is=some l'->l'.length=is.length/\∀(k i:Nat),is[k]?=some i->∃x,l[i]?=some x/\l'[k]?=some x
 |[],l',h=>by simp only[FQ,af]at h;subst h;exact⟨rfl,fun k i h=>by simp at h⟩
 |i::is,l',h=>by
  simp only[FQ]at h;obtain⟨x,hx,h⟩:=aa.1 h;obtain⟨r,hr,rfl⟩:=ab.1 h;obtain⟨k1,k2⟩:=uQ hr;refine⟨by simp[k1],fun k j hk=>?_⟩
  cases k with
  |zero=>simp at hk;subst hk;exact⟨x,hx,rfl⟩
  |succ k=>simpa using k2 k j (by simpa using hk)
theorem NQ:∀{l l':List Nat},PZ l l'=true->l=l'
 |[],[],_=>rfl
 |[],_::_,h=>by simp[PZ]at h
 |_::_,[],h=>by simp[PZ]at h
 |x::l,y::l',h=>by
  simp only[PZ,al]at h;rw[ah h.1,NQ h.2]
theorem uS{pm bk:List Nat}{ds ds1 ds2:List (ic S)}(hp:J2 pm bk=true)(h1:ni pm ds=some ds1)(h2:ni bk ds1=some ds2):ds2=ds:=by
 cases pm with
 |nil=>
  cases bk with
  |nil=>simp only[ni,af]at h1 h2;rw[<- h2,h1]
  |cons=>simp[J2]at hp
 |cons p pm=>
  cases bk with
  |nil=>simp[J2]at hp
  |cons b bk=>
   simp only[J2,al]at hp
   obtain⟨hl,hp⟩:=hp
   have hl:=ah hl
   simp only[ni]at h1 h2
   split at h1
   . rename_i hl1
     have hl1:=ah hl1
     split at h2
     . rename_i hl2
       split at hp
       . rename_i l hb
         have hb':=NQ hp
         subst hb'
         obtain⟨a1,a2⟩:=uQ h1
         obtain⟨b1,b2⟩:=uQ h2
         obtain⟨c1,c2⟩:=uQ hb
         refine List.ext_getElem? fun i=>?_
         by_cases hi:i<(b::bk).length
         . obtain⟨j,hj⟩:∃j,(b::bk)[i]?=some j:=⟨_,List.getElem?_eq_getElem hi⟩
           obtain⟨x,hx1,hx2⟩:=b2 i j hj
           obtain⟨k,hk1,hk2⟩:=c2 i j hj
           obtain⟨y,hy1,hy2⟩:=a2 j k hk1
           rw[List.getElem?_range hi]at hk2
           cases hk2
           rw[hy2]at hx1
           cases hx1
           rw[hx2,hy1]
         . rw[List.getElem?_eq_none (by omega),List.getElem?_eq_none (by omega)]
       . cases hp
     . cases h2
   . cases h1
end E
end
end Go.Proofs.YtjfkdglgecgjfaaGreat
