/- Part of the proof. -/
import Derived.Test.YtjfkdglgecgjfaaGreatZEvR
namespace Go.Proofs.YtjfkdglgecgjfaaGreat
section
open Go.RowKit G
namespace E
variable {S:Nat->Type}{tb:Tb S}{K:ep tb}{P:Program}{o:Oper}{xs:List (AV S)}{ob:List (Nat×Nat×AO S)}{ct:Nat}{γ:Type}{k:ia S->Option γ}{r:γ}{tt:TypeId->Option (TI S)}{g:GG S}{m:Mem}
def GG.jm(g:GG S)(i:Nat)(x:Gh):GG S:={g with bk:=fun j=>if j=i then some x else g.bk j}
theorem GG.gw{i:Nat}{x:Gh}(h:g.bk i=none):GE g (g.jm i x):=
 ⟨fun j y hy=>by unfold GG.jm;simp only;by_cases e:j=i
                 . subst e;rw[h]at hy;cases hy
                 . rw[if_neg e];exact hy,fun _ _ h=>h,fun _ _ h=>h⟩
theorem GG.cM{i:Nat}{x:Gh}:(g.jm i x).bk i=some x:=by simp[GG.jm]
theorem GG.eU{x:Gh}:∀i,(g.jm (ct+1) x).bk i≠g.bk i->ct+1<=i/\i<ct+32:=fun i h=>by
 by_cases e:i=ct+1
 . omega
 . exact absurd (by simp[GG.jm,e]) h
theorem QX:∀{v:CV S},Z8 v=true->∀u∈ui v,u.oneCell'=true
 |.int _ _,_| .u8 _,_| .tt _,_| .str _,_| .fg,_| .kG,_| .fB,_| .Bv,_| .xV,_=>by intro u hu;simp[ui]at hu;subst hu;rfl
 |.a8 _ _,_| .ai _ _ _,_=>by intro u hu;simp[ui]at hu;obtain⟨_,_,rfl⟩:=hu;rfl
theorem KC{vs:List (CV S)}(h:vs.all Z8=true):∀u∈jc vs,u.oneCell'=true:=by
 intro u hu;unfold jc at hu;obtain⟨v,hv,hu⟩:=List.mem_flatMap.1 hu;exact QX (aE.1 h v hv) u hu
theorem mh{t:TypeId}{i:TI S}(h:ED P t i):(zeroOf i).cells.toList=jc i.zero:=by
 unfold zeroOf;split
 . simp[Value.cells]
 . rename_i hA;have h1:=h.len;rw[h.one hA]at h1;have h2:=KC h.VO
   match hz:jc i.zero,h1 with
   |[v],_=>
    rw[hz]at h2
    have:=h2 v (by simp)
    cases v<;>first|rfl|cases this
theorem qn{a:AV S}{vs:List (CV S)}{v:Value}(h:o9 a=some vs)(hv:bP K g m a v):cJ K g m vs v.cells.toList:=by
 cases a with
 |one x=>
  simp only[o9,af]at h;subst h
  simp only[bP]at hv
  have h1:=R8 hv v (by simp)
  have:v.cells= #[v]:=by cases v<;>first|rfl|cases h1
  rw[this];exact jd hv
 |agg l=>
  simp only[o9,af]at h;subst h
  simp only[bP]at hv
  obtain⟨cs,rfl,h1⟩:=hv
  simpa[Value.cells]using h1
 |dD l=>cases h
theorem NF(hf:iE g ct){b:Nat}{cs:Array Value}{vs:List (CV S)}{t:TypeId}{m':Mem}(hle:Le m m')(hS:St [] m m' [.box b cs t])(hc:cJ K g m vs cs.toList):
 AA K g m ct [] [] {v:=.one (.ptr (ct+1) 0),add:=[(ct+1,.box t vs)]} (.pointer (some ⟨b,0,none⟩)) m'.w:=by
 have hg:=GG.gw (x:=⟨some b,none,0,0,default⟩) (hf (ct+1) (by omega) (by omega)).1
 refine⟨m',g.jm (ct+1) ⟨some b,none,0,0,default⟩,[.box b cs t],rfl,by simpa using hS,hg,rfl,rfl,GG.eU,⟨_,[],rfl,⟨_,b,cs.toList,GG.cM,rfl,by simp,hc.mono hg hle⟩,rfl⟩,?_⟩
 simp only[bP,bM]
 exact⟨_,b,GG.cM,rfl,rfl⟩
theorem Dw(hT:dx P K tt){t:TypeId}(ho:o.op=.alloc t){ti:TI S}(hti:tt t=some ti)(h:k {v:=.one (.ptr (ct+1) 0),add:=[(ct+1,.box t ti.zero)]}=some r):dT P K o xs ob ct k r:=by
 refine⟨_,h,by simp,fun g a m Lr Lm hf _ ha hr hm hO=>?_⟩;simp only[pick,eW]at hr hm;subst hr;subst hm;have hty:=hT.ty t ti hti;have hz:(P.info? t).map (·.zero)=some (some (zeroOf ti)):=by
  obtain⟨inf,h1,h2,_⟩:=info_parts hty.info;simp[h1,h2]
 exact Xa (zeroOf ti) (Ke.nil a) (St.refl (Ow.nil m)) ho hz fun m' b _ hle hS=>NF hf hle (by simpa using hS) (by rw[mh hty];exact kQ hty.VO)
theorem Mf{t:TypeId}{x:Operand}(ho:o.op=.box t x){v:AV S}{cs:List (CV S)}(hc:o9 v=some cs)(h:k {v:=.one (.ptr (ct+1) 0),add:=[(ct+1,.box t cs)]}=some r):dT P K o [v] ob ct k r:=by
 refine⟨_,h,by simp,fun g a m Lr Lm hf _ ha hr hm hO=>?_⟩;simp only[pick,eW]at hr hm;subst hr;subst hm;rw[ho]at ha;have hv:=qn hc (dW ha);exact abz (da a [x]) (St.refl (Ow.nil m)) ho (bQ a [x] (by simp)) fun m' b _ hle hS=>NF hf hle (by simpa using hS) hv
theorem Dl{ti:TI S}{vs:Option (List (CV S))}{one:Option (CV S)}{rd:List Nat}(h:uI ti vs one rd k=some r):(fu ti.d=true/\∃l,vs=some l/\k {v:=.agg l,rd:=rd}=some r)\/(fu ti.d=false/\∃v,one=some v/\k {v:=.one v,rd:=rd}=some r):=by
 unfold uI at h;split at h
 . rename_i hA;obtain⟨l,h1,h2⟩:=aa.1 h;exact .inl ⟨hA,l,h1,h2⟩
 . rename_i hA;obtain⟨l,h1,h2⟩:=aa.1 h;exact .inr ⟨hA,l,h1,h2⟩
def M9(P:Program)(K:ep tb)(g:GG S)(m:Mem)(o:Oper)(a:Act)(ti:TI S)(off:Nat)(vs:List (CV S)):Prop:=
 (∀l,fu ti.d=true->(cutAt off vs).bind (qx ti.size)=some l->∃u,(execOp a.eval o).run P m.w=.ok (.value u) m.w/\bP K g m (.agg l) u)/\
  (∀v,fu ti.d=false->ta off vs=some v->∃u,(execOp a.eval o).run P m.w=.ok (.value u) m.w/\bP K g m (.one v) u)
theorem G7(hT:dx P K tt){t:TypeId}{x:Operand}(ho:o.op=.load t x){ti:TI S}(hti:tt t=some ti){a:Act}{b p off:Nat}{ecs:List Value}{vs:List (CV S)}(hx:a.eval x=.pointer (some ⟨b,p+off,none⟩))(hA:∀i u,ecs[i]?=some u->m.w.cell? ⟨b,p+i,none⟩=some u)(hv:cJ K g m vs ecs):M9 P K g m o a ti off vs:=by
 have hag:=(hT.ty t ti hti).agg;constructor
 . intro l hA' hl;obtain⟨l',hl',hl⟩:=aa.1 hl;obtain⟨k1,k2⟩:=qw hl' hv;obtain⟨k3,k4⟩:=tf hl k1;rw[hA']at hag;have hlen:((ecs.drop off).take ti.size).length=ti.size:=by rw[aM];omega
   refine⟨.agg ((ecs.drop off).take ti.size).toArray,?_,by simp only[bP];exact⟨_,rfl,k3⟩⟩;have hrun:=zW (P:=P) (w:=m.w) (b:=b) (o:=p+off) (cs:=(ecs.drop off).take ti.size) (t:=t) (by rw[hlen];exact hag) (fun i u hu=>by
    rw[List.getElem?_take]at hu;split at hu
    . rw[List.getElem?_drop]at hu;rw[Nat.add_assoc];exact hA _ _ hu
    . cases hu)
   simp[execOp,ho,hx,Instr.loadAt,Instr.sureAddr,hrun]
 . intro v hA' hl;obtain⟨u,k1,k2⟩:=w8 hl hv;rw[hA']at hag;refine⟨u,?_,by simp only[bP];exact k2⟩;have hrun:=uT (P:=P) (w:=m.w) (b:=b) (o:=p+off) (t:=t) hag (hA off u k1);simp[execOp,ho,hx,Instr.loadAt,Instr.sureAddr,hrun]
theorem kT{q ver:Nat}{ao:AO S}{v:CV S}{av:AV S}{x:Operand}(hx:o.op.operands.toList=[x])(hq:look q ob=some (ver,ao))(h:k {v:=av,rd:=[q]}=some r)
 (hrun:∀(g:GG S) (a:Act) (m:Mem) (e:bR),bM K g m v [a.eval x]->g.oo ver=some (ao,e)->iY K g m q ao e->Ow m [e]->∃u,(execOp a.eval o).run P m.w=.ok (.value u) m.w/\bP K g m av u):dT P K o [.one v] ob ct k r:=by
 refine⟨_,h,by simp,fun g a m Lr Lm hf _ ha hr hm hO=>?_⟩
 simp only[pick,eW]at hm
 subst hm
 obtain⟨e,rfl,hoo,hob⟩:=dA hr hq
 rw[hx]at ha
 have hv:=dW ha
 simp only[bP]at hv
 have hO':Ow m [e]:=by simpa using hO
 obtain⟨u,h1,h2⟩:=hrun g a m e hv hoo hob hO'
 exact bI.val h1 (AA.pure rfl hO' h2)
theorem PN{f:Nat->UInt8}{n:Nat}{i:Int}(h:0<=i/\i<(n:Int)):((List.range n).map (fun j=>Value.int .u8 ((f j).toNat:Int)))[i.toNat]?=some (.int .u8 ((ry f i).toNat:Int)):=by
 have:i.toNat<n:=by omega
 simp[this,ry]
theorem Lb{f:Nat->Int}{kk:IntKind}{n:Nat}{i:Int}(h:0<=i/\i<(n:Int)):((List.range n).map (fun j=>Value.int kk (f j)))[i.toNat]?=some (.int kk (ry f i)):=by
 have:i.toNat<n:=by omega
 simp[this,ry]
theorem Hl(hT:dx P K tt){t:TypeId}{x:Operand}(ho:o.op=.load t x){v:CV S}(h:Fz tb tt t v ob k=some r):dT P K o [.one v] ob ct k r:=by
 have hox:o.op.operands.toList=[x]:=by rw[ho];rfl
 unfold Fz at h;obtain⟨ti,hti,h'⟩:=aa.1 h;clear h;have h:=h';clear h';split at h
 . rename_i q off;obtain⟨⟨ver,ao⟩,hq,h'⟩:=aa.1 h;clear h;have h:=h';clear h';split at h
   . rename_i T cs hao;simp only at hao;subst hao;have key:∀(g:GG S) (a:Act) (m:Mem) (e:bR),bM K g m (.ptr q off) [a.eval x]->g.oo ver=some (.box T cs,e)->iY K g m q (.box T cs) e->Ow m [e]->M9 P K g m o a ti off cs:=fun g a m e hv _ hob hO=>by
      simp only[bM]at hv;obtain⟨gh,b,k1,k2,k3⟩:=hv;obtain⟨gh',b',us,j1,j2,rfl,j4⟩:=hob;rw[k1]at j1;have e1:=ax j1;subst e1;rw[k2]at j2;have e2:=ax j2;subst e2;have hx:a.eval x=.pointer (some ⟨b,0+off,none⟩):=by rw[aL];simpa using k3
      exact G7 (K:=K) (g:=g) hT ho hti hx (fun i u hu=>by rw[aL,Cq (St.refl hO) 0 rfl];simpa using hu) j4
     rcases Dl h with⟨hA,l,hl,h⟩|⟨hA,w,hl,h⟩
     . exact kT hox hq h fun g a m e h1 h2 h3 h4=>(key g a m e h1 h2 h3 h4).1 l hA hl
     . exact kT hox hq h fun g a m e h1 h2 h3 h4=>(key g a m e h1 h2 h3 h4).2 w hA hl
   . cases h
 . rename_i c y off;have key:∀(g:GG S) (a:Act) (m:Mem),bM K g m (.el c y off) [a.eval x]->M9 P K g m o a ti off (Q7 tb c y):=fun g a m hv=>by
    simp only[bM]at hv;obtain⟨b,p,ecs,k1,k2,k3⟩:=hv;have hx:a.eval x=.pointer (some ⟨b,p+off,none⟩):=by simpa using k1
    exact G7 (K:=K) (g:=g) hT ho hti hx (fun i u hu=>(k3 i u hu).2) (Am k2)
   rcases Dl h with⟨hA,l,hl,h⟩|⟨hA,w,hl,h⟩
   . exact⟨_,h,eC fun g a m ha=>by rw[hox]at ha;have:=dW ha;simp only[bP]at this;exact(key g a m this).1 l hA hl⟩
   . exact⟨_,h,eC fun g a m ha=>by rw[hox]at ha;have:=dW ha;simp only[bP]at this;exact(key g a m this).2 w hA hl⟩
 . rename_i q ver0 c y j off;obtain⟨⟨ver,ao⟩,hq,h'⟩:=aa.1 h;clear h;have h:=h';clear h';split at h
   . rename_i hver;have hver:=ah hver;simp only at hver;subst hver;have key:∀(g:GG S) (a:Act) (m:Mem) (e:bR),bM K g m (.KG q ver c y j off) [a.eval x]->g.oo ver=some (ao,e)->iY K g m q ao e->Ow m [e]->M9 P K g m o a ti off (Q7 tb c y):=fun g a m e hv hoo hob hO=>by
      simp only[bM]at hv;obtain⟨gh,b,p,e',f,l,en,k1,k2,k3,k4,k5⟩:=hv;rw[hoo]at k4;cases k4;obtain⟨gh',cs,j1,j2,rfl,j4,j5⟩:=hob;rw[k1]at j1;have e1:=ax j1;subst e1;obtain⟨jn,rfl,hj⟩:=tv k5;have hjl:jn<l.length:=(List.getElem?_eq_some_iff.1 hj).1;have hy:l[jn]=y:=(List.getElem?_eq_some_iff.1 hj).2;obtain⟨b',p',ecs,hg,had,hel⟩:=j4.elem (cF K c).pos hjl;rw[aG,had]at k2;cases k2;have hx:a.eval x=.pointer (some ⟨b,p+off,none⟩):=by simpa using k3
      have hrel:=hel.rel;rw[hy]at hrel;have hS:=St.refl hO;rw[hg]at hS;have hheap:m.w.heap[b]?=some (.cells cs e' (0,0)):=by
       have:=hO.ok (.arr gh.g cs e') (by simp);exact this b hg
      exact G7 (K:=K) (g:=g) hT ho hti hx (fun i u hu=>by
       rw[cell_of_row _ _ _ _ _ _ hheap];exact hel.get i u hu) (Am hrel)
     rcases Dl h with⟨hA,l,hl,h⟩|⟨hA,w,hl,h⟩
     . exact kT hox hq h fun g a m e h1 h2 h3 h4=>(key g a m e h1 h2 h3 h4).1 l hA hl
     . exact kT hox hq h fun g a m e h1 h2 h3 h4=>(key g a m e h1 h2 h3 h4).2 w hA hl
   . cases h
 . rename_i q off n j;obtain⟨⟨ver,ao⟩,hq,h'⟩:=aa.1 h;clear h;have h:=h';clear h';split at h
   . rename_i T cs hao hA;simp only at hao;subst hao;obtain⟨ds,hds,h'⟩:=aa.1 h;clear h;have h:=h';clear h';have hag:=(hT.ty t ti hti).agg;rw[hA]at hag;have key:∀(g:GG S) (a:Act) (m:Mem) (e:bR) (w:CV S) (ws:List (CV S)) (u:Value),ds=w::ws->(∀cs0:List Value,bM K g m w cs0->cs0[j.toNat]?=some u)->bM K g m (.Sd q off n j) [a.eval x]->iY K g m q (.box T cs) e->Ow m [e]->(execOp a.eval o).run P m.w=.ok (.value u) m.w:=fun g a m e w ws u hdw hwu hv hob hO=>by
      simp only[bM]at hv;obtain⟨gh,b,k1,k2,k3,k4⟩:=hv;obtain⟨gh',b',us,j1,j2,rfl,j4⟩:=hob;rw[k1]at j1;have e1:=ax j1;subst e1;rw[k2]at j2;have e2:=ax j2;subst e2;have hx:a.eval x=.pointer (some ⟨b,off+j.toNat,none⟩):=by simpa using k3
      obtain⟨q1,q2⟩:=qw hds j4;rw[hdw]at q1;obtain⟨c1,c2,he,q3,_⟩:=q1;have hu:=hwu c1 q3;have hcell:m.w.cell? ⟨b,off+j.toNat,none⟩=some u:=by
       rw[Cq (St.refl hO) 0 rfl];have:(us.drop off)[j.toNat]?=some u:=by
        rw[he,List.getElem?_append_left (List.getElem?_eq_some_iff.1 hu).1];exact hu
       rw[List.getElem?_drop]at this;simpa using this
      have hrun:=uT (P:=P) (w:=m.w) (b:=b) (o:=off+j.toNat) (t:=t) hag hcell;simp[execOp,ho,hx,Instr.loadAt,Instr.sureAddr,hrun]
     have hb:∀(g:GG S) (a:Act) (m:Mem),bM K g m (.Sd q off n j) [a.eval x]->0<=j/\j<(n:Int):=fun g a m hv=>by
      simp only[bM]at hv;obtain⟨gh,b,k1,k2,k3,k4⟩:=hv;exact k4
     split at h
     . rename_i n' f ws;split at h
       . rename_i hn;have hn:=ah hn;subst hn;exact kT hox hq h fun g a m e h1 h2 h3 h4=>⟨_,key g a m e _ ws _ rfl (fun cs0 hc=>by simp only[bM]at hc;rw[hc];exact PN (hb g a m h1)) h1 h3 h4,by simp only[bP,bM]⟩
       . cases h
     . rename_i n' kk f ws;split at h
       . rename_i hn;have hn:=ah hn;subst hn;exact kT hox hq h fun g a m e h1 h2 h3 h4=>⟨_,key g a m e _ ws _ rfl (fun cs0 hc=>by simp only[bM]at hc;rw[hc];exact Lb (hb g a m h1)) h1 h3 h4,by simp only[bP,bM]⟩
       . cases h
     . cases h
   . cases h
 . cases h
theorem Hu{o n:Nat}{xs vs ws:List (CV S)}{cs ds:List Value}(h:TE o n xs vs=some ws)(hx:cJ K g m xs ds)(hv:cJ K g m vs cs):ds.length=n/\o+n<=cs.length/\cJ K g m ws (cs.take o++ds++cs.drop (o+n)):=by
 unfold TE at h;split at h
 . rename_i hn;have hn:=ah hn;have hl:=ND hx;rw[hn]at hl;split at h
   . rename_i x h1 _;have h1:=ah h1;have hl1:=hl.trans h1;obtain⟨u,rfl⟩:=List.length_eq_one_iff.1 hl1;obtain⟨k1,k2⟩:=Oz h (mB hx) hv;rw[h1];refine⟨rfl,k2,?_⟩;rw[<- vA _ _ _ k2];exact k1
   . obtain⟨k1,k2⟩:=WX h hx hl hv;exact⟨hl,k2,k1⟩
 . cases h
theorem Hv:∀{o:Nat} {x:CV S} {vs ws vs1:List (CV S)} {v0:CV S} {cs:List Value} {i:Nat} {u:Value},wm o x vs=some ws->cutAt o vs=some (v0::vs1)->cJ K g m vs cs->i<v0.n->(∀c1,bM K g m v0 c1->bM K g m x (c1.set i u))->cJ K g m ws (cs.set (o+i) u)/\o+i<cs.length
 |0,x,[],_,_,_,_,_,_,h,_,_,_,_=>by simp[wm]at h
 |0,x,v::vs,ws,vs1,v0,cs,i,u,h,hc,hv,hi,hx=>by
  simp only[wm,af]at h;subst h;simp only[cutAt,af,bc]at hc;obtain⟨rfl,rfl⟩:=hc;obtain⟨c1,c2,rfl,h1,h2⟩:=hv;have:=h1.len;refine⟨⟨c1.set i u,c2,?_,hx c1 h1,h2⟩,by rw[ay];omega⟩;rw[aL,List.set_append_left _ _ (by omega)]
 |o+1,x,[],_,_,_,_,_,_,h,_,_,_,_=>by simp[wm]at h
 |o+1,x,v::vs,ws,vs1,v0,cs,i,u,h,hc,hv,hi,hx=>by
  unfold wm at h;unfold cutAt at hc;obtain⟨c1,c2,rfl,h1,h2⟩:=hv;have hl:=h1.len;split at h
  . rename_i hle;rw[hle]at hc;have hle:=aj hle;obtain⟨ws',hw,rfl⟩:=ab.1 h;obtain⟨k1,k2⟩:=Hv hw hc h2 hi hx;refine⟨⟨c1,c2.set (o+1-v.n+i) u,?_,h1,k1⟩,by rw[ay];omega⟩;rw[List.set_append_right _ _ (by omega),hl,show o+1+i-v.n=o+1-v.n+i by omega]
  . cases h
termination_by _ _ vs=>vs.length
theorem PO{f:Nat->UInt8}{n:Nat}{i:Int}{y:UInt8}(h:0<=i/\i<(n:Int)):((List.range n).map (fun j=>Value.int .u8 ((f j).toNat:Int))).set i.toNat (.int .u8 (y.toNat:Int))=(List.range n).map (fun j=>Value.int .u8 ((tU f i y j).toNat:Int)):=by
 obtain⟨q,rfl⟩:∃q:Nat,i=(q:Int):=⟨i.toNat,by omega⟩;rw[sa n f q y (fun c:UInt8=>Value.int .u8 (c.toNat:Int)) (by omega)];simp
theorem Lc{f:Nat->Int}{kk:IntKind}{n:Nat}{i:Int}{y:Int}(h:0<=i/\i<(n:Int)):((List.range n).map (fun j=>Value.int kk (f j))).set i.toNat (.int kk y)=(List.range n).map (fun j=>Value.int kk (tU f i y j)):=by
 obtain⟨q,rfl⟩:∃q:Nat,i=(q:Int):=⟨i.toNat,by omega⟩;rw[sa n f q y (fun c:Int=>Value.int kk c) (by omega)];simp
theorem Fe{q b off:Nat}{us:List Value}{T:TypeId}{t:TypeId}{x y:Operand}{cs':List (CV S)}{gh:Gh}{a:Act}(ho:o.op=.store t x y)(h1:g.bk q=some gh)(h2:gh.g=some b)(hO:Ow m [bR.box b us.toArray T])(hx:a.eval x=.pointer (some ⟨b,off,none⟩))
 (hag:(fD P t).map (·.2)=some (a.eval y).cells.size) (hfit:off+(a.eval y).cells.size<=us.length) (hone:∀u∈(a.eval y).cells.toList,u.oneCell'=true)
 (hc:cJ K g m cs' (us.take off++(a.eval y).cells.toList++us.drop (off+(a.eval y).cells.size))):
 bI P o a m.w fun v w'=>AA K g m ct [] [bR.box b us.toArray T] {v:=AV.gH S,rm:=[q],add:=[(q,.box T cs')]} v w':=by
 refine OM (v:=a.eval y) (da a [x,y]) 0 (St.refl hO) ho (by rw[bQ a [x,y] (by simp),hx]) (bQ a [x,y] (by simp)) rfl hag (by simpa using hfit) (aE.2 hone) fun m' hle hS=>?_
 have hput:putAt us.toArray off (a.eval y).cells.toList=(us.take off++(a.eval y).cells.toList++us.drop (off+(a.eval y).cells.size)).toArray:=by
  unfold putAt;simp
 rw[hput]at hS
 refine⟨m',g,[bR.box b _ T],rfl,by simpa using hS,GE.refl g,rfl,rfl,fun i h=>absurd rfl h,⟨_,[],rfl,⟨gh,b,_,h1,h2,rfl,hc.mono (GE.refl g) hle⟩,rfl⟩,by simp[AV.gH,bP,db,undef]⟩
theorem DD(hT:dx P K tt){t:TypeId}{x y:Operand}(ho:o.op=.store t x y){p:CV S}{av:AV S}(h:Ai tb tt t p av ob k=some r):dT P K o [.one p,av] ob ct k r:=by
 have hox:o.op.operands.toList=[x,y]:=by rw[ho];rfl
 unfold Ai at h;obtain⟨ti,hti,h'⟩:=aa.1 h;clear h;have h:=h';clear h';obtain⟨xs,hxs,h'⟩:=aa.1 h;clear h;have h:=h';clear h';have hag:=(hT.ty t ti hti).agg;split at h
 . rename_i q off;obtain⟨⟨ver,ao⟩,hq,h'⟩:=aa.1 h;clear h;have h:=h';clear h';split at h
   . rename_i T cs hao;simp only at hao;subst hao;obtain⟨cs',hcs',h'⟩:=aa.1 h;clear h;have h:=h';clear h';refine⟨_,h,by simp,fun g a m Lr Lm hf _ ha hr hm hO=>?_⟩;simp only[pick,eW]at hr;subst hr;obtain⟨e,rfl,hoo,gh',b',us,j1,j2,rfl,j4⟩:=dA hm hq;rw[hox]at ha;obtain⟨hv,hw⟩:=eo ha;simp only[bP,bM]at hv;obtain⟨gh,b,k1,k2,k3⟩:=hv;rw[k1]at j1;have e1:=ax j1;subst e1;rw[k2]at j2;have e2:=ax j2;subst e2;have hx:a.eval x=.pointer (some ⟨b,off,none⟩):=by simpa using k3
     have hcl:=qn hxs hw;obtain⟨q1,q2,q3⟩:=Hu hcs' hcl j4;have q1':(a.eval y).cells.size=ti.size:=by simpa using q1
     exact Fe ho k1 k2 (by simpa using hO) hx (by rw[hag,q1'];rfl) (by rw[q1'];exact q2) (xg hcl) (by rw[q1'];exact q3)
   . cases h
 . rename_i q ver0 c z j off;obtain⟨⟨ver,ao⟩,hq,h'⟩:=aa.1 h;clear h;have h:=h';clear h';split at h
   . rename_i hver;have hver:=ah hver;simp only at hver;subst hver;split at h
     . rename_i e c' full l hao;simp only at hao;subst hao;obtain⟨cs',hcs',h'⟩:=aa.1 h;clear h;have h:=h';clear h';obtain⟨u',hu',h'⟩:=aa.1 h;clear h;have h:=h';clear h';refine⟨_,h,by simp,fun g a m Lr Lm hf _ ha hr hm hO=>?_⟩;simp only[pick,eW]at hr;subst hr;obtain⟨en,rfl,hoo,gh',cs,j1,j2,rfl,j4,j5⟩:=dA hm hq;rw[hox]at ha;obtain⟨hv,hw⟩:=eo ha;simp only[bP,bM]at hv;obtain⟨gh,b,p,e',f,l',en',k1,k2,k3,k4,k5⟩:=hv;rw[k1]at j1;have e1:=ax j1;subst e1;rw[hoo]at k4;have e2:=ax k4;simp only[aA]at e2;obtain⟨e2,_⟩:=e2;cases e2;obtain⟨jn,rfl,hj⟩:=tv k5;have hjl:jn<l'.length:=(List.getElem?_eq_some_iff.1 hj).1;have hy:l'[jn]=z:=(List.getElem?_eq_some_iff.1 hj).2;obtain⟨b',p',ecs,hg,had,hel⟩:=j4.elem (cF K c).pos hjl;rw[aG,had]at k2;cases k2;have hx:a.eval x=.pointer (some ⟨b,p+off,none⟩):=by simpa using k3
       have hrel:=hel.rel;rw[hy]at hrel;have hcl:=qn hxs hw;obtain⟨q1,q2,q3⟩:=Hu hcs' hcl (Am (g:=g) hrel);have q1':(a.eval y).cells.size=ti.size:=by simpa using q1
       have hr':∀m',Le m m'->RK K c m' u' (ecs.take off++(a.eval y).cells.toList++ecs.drop (off+(a.eval y).cells.size)):=fun m' hle=>by
        rw[q1'];exact tJ hu' (q3.mono (GE.refl g) hle)
       have hO':Ow m [bR.arr gh.g cs e]:=by simpa using hO
       cases full with
       |false=>
        refine Ud (cF K c) hg hel (da a [x,y]) 0 (St.refl hO') ho (by rw[bQ a [x,y] (by simp),hx]) (bQ a [x,y] (by simp)) rfl (by rw[hag,q1'];rfl) (aE.2 (xg hcl)) (by rw[q1',<- hel.len];simpa using q2) u' hr' fun m' cs2 hle hS hA=>?_
        refine⟨m',g,[bR.arr gh.g cs2 e],rfl,by simpa using hS,GE.refl g,rfl,rfl,fun i h=>absurd rfl h,⟨_,[],rfl,⟨gh,cs2,k1,by rw[List.length_set];exact j2,rfl,by rw[aG];exact hA,fun h=>by cases h⟩,rfl⟩,by simp[AV.gH,bP,db,undef]⟩
       |true=>
        obtain⟨hfa,hF⟩:=j5 rfl
        rw[hfa]at hel
        refine QK hF (cF K c) hg hel (da a [x,y]) 0 (St.refl hO') ho (by rw[bQ a [x,y] (by simp),hx]) (bQ a [x,y] (by simp)) rfl (by rw[hag,q1'];rfl) (aE.2 (xg hcl)) (by rw[q1',<- hel.len];simpa using q2) u' hr' fun m' cs2 hle hS hA=>?_
        refine⟨m',g,[bR.arr gh.g cs2 e],rfl,by simpa using hS,GE.refl g,rfl,rfl,fun i h=>absurd rfl h,⟨_,[],rfl,⟨gh,cs2,k1,by rw[List.length_set];exact j2,rfl,by rw[aG,hfa];exact hA.1,fun _=>⟨hfa,by rw[aG];exact hA⟩⟩,rfl⟩,by simp[AV.gH,bP,db,undef]⟩
     . cases h
   . cases h
 . rename_i q off n j;obtain⟨⟨ver,ao⟩,hq,h'⟩:=aa.1 h;clear h;have h:=h';clear h';split at h
   . rename_i T cs hao hsz;simp only at hao;subst hao;have hsz:=ah hsz;obtain⟨cs1,hcs1,h'⟩:=aa.1 h;clear h;have h:=h';clear h';obtain⟨cs',hcs',h'⟩:=aa.1 h;clear h;have h:=h';clear h';refine⟨_,h,by simp,fun g a m Lr Lm hf _ ha hr hm hO=>?_⟩;simp only[pick,eW]at hr;subst hr;obtain⟨e,rfl,hoo,gh',b',us,j1,j2,rfl,j4⟩:=dA hm hq;rw[hox]at ha;obtain⟨hv,hw⟩:=eo ha;simp only[bP,bM]at hv;obtain⟨gh,b,k1,k2,k3,k4⟩:=hv;rw[k1]at j1;have e1:=ax j1;subst e1;rw[k2]at j2;have e2:=ax j2;subst e2;have hx:a.eval x=.pointer (some ⟨b,off+j.toNat,none⟩):=by simpa using k3
     have hcl:=qn hxs hw;have fin:∀u,(a.eval y).cells.toList=[u]->cJ K g m cs' (us.set (off+j.toNat) u)->off+j.toNat<us.length->bI P o a m.w fun v w'=>AA K g m ct [] [bR.box b us.toArray T] {v:=AV.gH S,rm:=[q],add:=[(q,.box T cs')]} v w':=fun u hu hc hlt=>by
      have h1:(a.eval y).cells.size=1:=by have:=congrArg List.length hu;simpa using this
      exact Fe ho k1 k2 (by simpa using hO) hx (by rw[hag,h1,hsz];rfl) (by rw[h1];exact hlt) (xg hcl) (by rw[h1,hu,<- vA _ _ _ hlt];exact hc)
     split at hcs'
     . rename_i n' f ws z;split at hcs'
       . rename_i hn;have hn:=ah hn;subst hn;have hu:=mB hcl;simp only[bM]at hu;obtain⟨q1,q2⟩:=Hv (g:=g) (m:=m) (K:=K) (i:=j.toNat) (u:=.int .u8 (z.toNat:Int)) hcs' hcs1 j4 (by simp only[CV.n];omega) (fun c1 hc=>by simp only[bM]at hc ⊢; rw[hc];exact PO k4);exact fin _ hu q1 q2
       . cases hcs'
     . rename_i n' kk f ws k' z;split at hcs'
       . rename_i hk hn _;have hn:=ah hn;subst hn;subst hk;have hu:=mB hcl;simp only[bM]at hu;obtain⟨q1,q2⟩:=Hv (g:=g) (m:=m) (K:=K) (i:=j.toNat) (u:=.int _ z) hcs' hcs1 j4 (by simp only[CV.n];omega) (fun c1 hc=>by simp only[bM]at hc ⊢; rw[hc];exact Lc k4);exact fin _ hu q1 q2
       . cases hcs'
     . cases hcs'
   . cases h
 . cases h
end E
end
section
open Go.RowKit G
namespace E
variable {S:Nat->Type}{tb:Tb S}{K:ep tb}{P:Program}{o:Oper}{xs:List (AV S)}{ob:List (Nat×Nat×AO S)}{ct:Nat}{γ:Type}{k:ia S->Option γ}{r:γ}{tt:TypeId->Option (TI S)}{g:GG S}{m:Mem}{fa:FA S}
theorem kh(hT:dx P K tt){t:TypeId}{ec:TypeId×Co}(h:gU tt t=some ec):P.underlying t=some (.slice ec.1)/\∃ei,tt ec.1=some ei/\dE P t ec.1 (zeroOf ei) (zK K ec.2) ei.bytes/\0<ei.bytes:=by
 unfold gU at h;obtain⟨i,hi,h⟩:=aa.1 h;split at h
 . rename_i e c hd hc;cases h;have htd:=(hT.ty t i hi).td;rw[hd]at htd;obtain⟨ei,h1,h2,h3⟩:=hT.el t i e c hi hd hc;have hety:=hT.ty e ei h1;refine⟨htd,ei,h1,⟨htd,by rw[<- h2];exact hety.info,?_,(cF K c).pos⟩,h3⟩;rw[<- Array.length_toList,mh hety,hety.len,h2]
 . cases h
theorem ou{v:AV S}{i:Int}{u:Value}(h:idxOf v=some i)(hv:bP K g m v u):∃kk,u=.int kk i:=by
 unfold idxOf at h;split at h
 . rename_i w;obtain⟨⟨kk,x⟩,h1,h2⟩:=ab.1 h;simp only at h2;subst h2;simp only[bP]at hv;exact⟨kk,(rP h1 hv).1⟩
 . cases h
theorem lY{t:TypeId}{x:Operand}{v:CV S}{av:AV S}(hox:o.op.operands.toList=[x])(h:k {v:=av}=some r)(hrun:∀(g:GG S) (a:Act) (m:Mem),bM K g m v [a.eval x]->bI P o a m.w fun u w'=>w'=m.w/\bP K g m av u):dT P K o [.one v] ob ct k r:=
 ⟨_,h,sL.pure rfl rfl rfl fun g a m ha=>by rw[hox]at ha;have:=dW ha;simp only[bP]at this;exact hrun g a m this⟩
theorem lZ{x y:Operand}{v:CV S}{w av:AV S}(hox:o.op.operands.toList=[x,y])(h:k {v:=av}=some r)(hrun:∀(g:GG S) (a:Act) (m:Mem),bM K g m v [a.eval x]->bP K g m w (a.eval y)->bI P o a m.w fun u w'=>w'=m.w/\bP K g m av u):dT P K o [.one v,w] ob ct k r:=
 ⟨_,h,sL.pure rfl rfl rfl fun g a m ha=>by rw[hox]at ha;obtain⟨h1,h2⟩:=eo ha;simp only[bP]at h1;exact hrun g a m h1 h2⟩
theorem rR(hT:dx P K tt){t:TypeId}{x y:Operand}(ho:o.op=.indexAddr t x y){v:CV S}{iv:AV S}{i:Int}(hi:idxOf iv=some i)(h:zu tt t y v i ob k=some r):dT P K o [.one v,iv] ob ct k r:=by
 have hox:o.op.operands.toList=[x,y]:=by rw[ho];rfl
 unfold zu at h;split at h
 . rename_i q off;obtain⟨ti,hti,h'⟩:=aa.1 h;clear h;have h:=h';clear h';have htd:=(hT.ty t ti hti).td;split at h
   . rename_i n e hd;rw[hd]at htd;obtain⟨ei,hei,h'⟩:=aa.1 h;clear h;have h:=h';clear h';split at h
     . rename_i hsz;have hsz:=ah hsz;have hes:(P.info? e).map (·.size)=some 1:=by
        obtain⟨inf,h1,_,h3,_⟩:=info_parts (hT.ty e ei hei).info;simp[h1,h3,hsz]
       split at h
       . rename_i kk j;split at h
         . rename_i hj;simp only[al,aJ]at hj;refine lZ hox h fun g a m hv hw=>?_
           simp only[bM]at hv;obtain⟨gh,b,k1,k2,k3⟩:=hv;have hx:a.eval x=.pointer (some ⟨b,off,none⟩):=by simpa using k3
           refine Kd (i:=j) (k:=kk) htd hes hj (da a [x]) ho (by rw[bQ a [x] (by simp),hx]) rfl ⟨rfl,?_⟩;simp only[val,bP,bM];exact⟨gh,b,k1,k2,by rw[Nat.add_comm]⟩
         . cases h
       . obtain⟨u,hu,h'⟩:=aa.1 h;clear h;have h:=h';clear h';have hj:=gi hu;refine lZ hox h fun g a m hv hw=>?_
         simp only[bM]at hv;obtain⟨gh,b,k1,k2,k3⟩:=hv;have hx:a.eval x=.pointer (some ⟨b,off,none⟩):=by simpa using k3
         obtain⟨kk,hy⟩:=ou hi hw;refine Kd (i:=i) (k:=kk) htd hes hj (da a [x,y]) ho (by rw[bQ a [x,y] (by simp),hx]) (by rw[bQ a [x,y] (by simp),hy]) ⟨rfl,?_⟩;simp only[val,bP,bM];exact⟨gh,b,k1,k2,by rw[Nat.add_comm],hj⟩
     . cases h
   . cases h
 . obtain⟨ec,hec,h'⟩:=aa.1 h;clear h;have h:=h';clear h';obtain⟨hu,ei,hei,hE,hb⟩:=kh hT hec;split at h
   . rename_i q _;obtain⟨⟨ver,ao⟩,hq,h'⟩:=aa.1 h;clear h;have h:=h';clear h';split at h
     . rename_i e' c' f l hao;simp only at hao;subst hao;split at h
       . rename_i hc _;subst hc;obtain⟨z,hz,h'⟩:=aa.1 h;clear h;have h:=h';clear h';refine⟨_,h,by simp,fun g a m Lr Lm hf _ ha hr hm hO=>?_⟩;simp only[pick,eW]at hm;subst hm;obtain⟨en,rfl,hoo,gh,cs,j1,j2,rfl,j4,j5⟩:=dA hr hq;rw[hox]at ha;obtain⟨hv,hw⟩:=eo ha;simp only[bP,bM]at hv;obtain⟨gh',k1,k2⟩:=hv;rw[j1]at k1;have e1:=ax k1;subst e1;have hx:a.eval x=.slice gh.ad gh.n gh.cap:=by simpa using k2
         obtain⟨kk,hy⟩:=ou hi hw;obtain⟨jn,rfl,hj⟩:=tv hz;have hjl:jn<l.length:=(List.getElem?_eq_some_iff.1 hj).1;obtain⟨b,p,ecs,hg,hadr,hel⟩:=j4.elem (cF K ec.2).pos hjl;have hbd:(0:Int)<=(jn:Int)/\(jn:Int)<(gh.n:Int):=⟨by omega,by omega⟩;refine bI.val (v:=.pointer (some ⟨b,p,none⟩)) ?_ (AA.pure rfl (by simpa using hO) ?_)
         . cases had:gh.ad with
           |none=>rw[had]at hadr;simp at hadr
           |some A=>
            rw[had]at hadr
            simp only[ak,af]at hadr
            simp only[execOp,ho,hx,hy,had,Instr.indexAt,asIntOf,Sem.run_bind,Sem.run_pure,Result.andThen_ok,run_underlying hu,kY hE,hbd,and_self,if_true,aG,hadr]
         . simp only[bP,bM];exact⟨gh,b,p,e',f,l,_,j1,by rw[aG];exact hadr,by rw[Nat.add_zero],hoo,hz⟩
       . cases h
     . cases h
   . obtain⟨l,hl,h'⟩:=aa.1 h;clear h;have h:=h';clear h';obtain⟨z,hz,h'⟩:=aa.1 h;clear h;have h:=h';clear h';refine lZ hox h fun g a m hv hw=>?_
     obtain⟨ad,n,hx,hEl⟩:=mg hl hv;obtain⟨kk,hy⟩:=ou hi hw;refine abB hE hEl hz (da a [x,y]) ho (by rw[bQ a [x,y] (by simp),hx]) (by rw[bQ a [x,y] (by simp),hy]) fun b p cs hR hA=>⟨rfl,?_⟩
     simp only[val,bP,bM];exact⟨b,p,cs,by rw[Nat.add_zero],hR,hA⟩
theorem iB{x:Option Operand}{vs vs':List (AV S)}{i:Option Int}{xs:List Operand}{a:Act}(h:oU x vs=some (i,vs'))(ha:oT K g m a (x.toList++xs) vs):oT K g m a xs vs'/\(∀j,i=some j->∃y kk,x=some y/\a.eval y=.int kk j)/\(i=none->x=none):=by
 cases x with
 |none=>
  simp only[oU,af,aA]at h
  obtain⟨rfl,rfl⟩:=h
  exact⟨by simpa using ha,fun j h=>(by cases h),fun _=>rfl⟩
 |some y=>
  cases vs with
  |nil=>simp[oU]at h
  |cons v vs=>
   simp only[oU]at h
   obtain⟨j,hj,h⟩:=ab.1 h
   simp only[aA]at h
   obtain⟨rfl,rfl⟩:=h
   simp only[Option.toList_some,List.singleton_append]at ha
   obtain⟨w,r,e,h1,h2⟩:=ha
   cases e
   obtain⟨kk,hy⟩:=ou hj h1
   exact⟨h2,fun j' hj'=>by cases hj';exact⟨y,kk,rfl,hy⟩,fun h=>by cases h⟩
theorem HA{zv:Value}{bytes:Nat}{t e:TypeId}{x y z:Operand}{α:Type}{R:Mem->α->List Value->Prop}{sz cap:Nat}{ad:Option Addr}{l l':List α}{k k':IntKind}{i:Int}{Kt':Kt}{a:Act}{b6:Value->World->Prop}(hT:dE P t e zv sz bytes)(hE:dM R m sz ad cap l)(hx:qO l i=some l')(hK:Ke a Kt')(ho:o.op=.slice t x none (some y) (some z))(hxx:gV Kt' x=some (.slice ad l.length cap))(hy:gV Kt' y=some (.int k i))(hz:gV Kt' z=some (.int k' i))
 (hp:∀a',dM R m sz a' l'.length l'->b6 (.slice a' l'.length l'.length) m.w):bI P o a m.w b6:=by
 obtain⟨j,rfl,hj,rfl⟩:=wv hx
 have hlc:=hE.sC
 have hb1:((0:Int)<=(j:Int)/\(j:Int)<=(cap:Int)):=⟨by omega,by omega⟩
 have hcut:=hE.VP 0 j j (Nat.zero_le _) hj (Nat.le_refl _) (by omega)
 have hjl:(l.take j).length=j:=by rw[aM];omega
 rw[gR,List.drop_zero,Nat.sub_zero]at hcut
 unfold bI execOp
 have hbj:(Instr.sliceBound (.int k' (j:Int)) cap BoundsCode.slice3Acap).run P m.w=.ok j m.w:=dQ (by omega)
 have hbj2:(Instr.sliceBound (.int k (j:Int)) j BoundsCode.slice3B).run P m.w=.ok j m.w:=dQ (Nat.le_refl _)
 have hadd:(if j=0 then ad else ad.map (·.add (0*sz)))=ad:=by
  have:=gR ad j sz;unfold dG at this;exact this
 simp only[ho,hK.ev hxx,hK.ev hy,hK.ev hz,Instr.sliceAt,Instr.slice,Instr.sliceBounds,Sem.run_bind,Sem.run_pure,Result.andThen_ok,run_underlying hT.gH,kY hT,ak,Option.map_none,hbj,hbj2,if_true,Option.isSome_some,Nat.sub_zero,hadd]
 have:=hp ad (by rw[hjl];exact hcut)
 rw[hjl]at this
 exact this
theorem PU{b:Option Nat}{c i j s:Nat}(hj:i+j<c):dG (dG (fP b) c i s) (c-i) j s=dG (fP b) c (i+j) s:=by
 unfold dG;by_cases h1:c=i
 . omega
 . by_cases h2:c-i=j
   . omega
   . rw[if_neg h1,if_neg h2,if_neg (by omega)]
     cases b with
     |none=>rfl
     |some b=>simp only[fP,ak,Addr.add_mid,aL,aN]
theorem ok_slice(hT:dx P K tt){t:TypeId}{x:Operand}{lo hi mx:Option Operand}(ho:o.op=.slice t x lo hi mx){v:CV S}{vs va vb vc:List (AV S)}{ilo ihi imx:Option Int}(h1:oU lo vs=some (ilo,va))(h2:oU hi va=some (ihi,vb))(h3:oU mx vb=some (imx,vc))
 (h:wx tt t v ilo ihi imx ob ct k=some r):dT P K o (.one v::vs) ob ct k r:=by
 have hox:o.op.operands.toList=x::(lo.toList++(hi.toList++(mx.toList++[]))):=by rw[ho];simp[Op.operands]
 have opn:∀{g:GG S} {m:Mem} {a:Act},oT K g m a o.op.operands.toList (.one v::vs)->bM K g m v [a.eval x]/\((∀j,ilo=some j->∃y kk,lo=some y/\a.eval y=.int kk j)/\(ilo=none->lo=none))/\((∀j,ihi=some j->∃y kk,hi=some y/\a.eval y=.int kk j)/\(ihi=none->hi=none))/\((∀j,imx=some j->∃y kk,mx=some y/\a.eval y=.int kk j)/\(imx=none->mx=none)):=fun{g m a} ha=>by
  rw[hox]at ha;obtain⟨w,r,e,k1,k2⟩:=ha;cases e;simp only[bP]at k1;obtain⟨k3,k4⟩:=iB h1 k2;obtain⟨k5,k6⟩:=iB h2 k3;obtain⟨k7,k8⟩:=iB h3 k5;exact⟨k1,k4,k6,k8⟩
 unfold wx at h
 obtain⟨ec,hec,h'⟩:=aa.1 h
 clear h;have h:=h';clear h'
 obtain⟨hu,ei,hei,hE,hb⟩:=kh hT hec
 split at h
 . rename_i q
   obtain⟨⟨ver,ao⟩,hq,h'⟩:=aa.1 h
   clear h;have h:=h';clear h'
   split at h
   . rename_i e' c' f l i hao
     simp only at hao;subst hao
     split at h
     . rename_i hc _
       subst hc
       obtain⟨l',hl',h'⟩:=aa.1 h
       clear h;have h:=h';clear h'
       refine⟨_,h,by simp,fun g a m Lr Lm hf _ ha hr hm hO=>?_⟩
       simp only[pick,eW]at hr
       subst hr
       obtain⟨en,rfl,hoo,gh,cs,j1,j2,rfl,j4,j5⟩:=dA hm hq
       obtain⟨hv,⟨hlo,_⟩,⟨_,hhi⟩,⟨_,hmx⟩⟩:=opn ha
       obtain⟨y,kk,rfl,hy⟩:=hlo _ rfl
       obtain rfl:=hhi rfl
       obtain rfl:=hmx rfl
       simp only[bM]at hv
       obtain⟨gh',k1,k2⟩:=hv
       rw[j1]at k1;have e1:=ax k1;subst e1
       have hx:a.eval x=.slice gh.ad l.length gh.cap:=by rw[j2];simpa using k2
       have hO':Ow m [bR.arr gh.g cs e']:=by simpa using hO
       refine MB hE j4 hl' (da a [x,y]) ho (by rw[bQ a [x,y] (by simp),hx]) (by rw[bQ a [x,y] (by simp),hy]) fun a' c2 hA=>?_
       have hge:=GG.gw (x:=⟨gh.g,a',c2,l'.length,default⟩) (hf (ct+1) (by omega) (by omega)).1
       refine⟨m,g.jm (ct+1) ⟨gh.g,a',c2,l'.length,default⟩,[bR.arr gh.g cs e'],rfl,by simpa using St.refl hO',hge,rfl,rfl,GG.eU,⟨_,[],rfl,⟨_,cs,GG.cM,rfl,rfl,hA,fun h=>by cases h⟩,rfl⟩,?_⟩
       simp only[bP,bM]
       exact⟨_,GG.cM,rfl⟩
     . cases h
   . rename_i e' c' full l j hao
     simp only at hao;subst hao
     split at h
     . rename_i hc _
       subst hc
       obtain⟨l',hl',h'⟩:=aa.1 h
       clear h;have h:=h';clear h'
       refine⟨_,h,by simp,fun g a m Lr Lm hf _ ha hr hm hO=>?_⟩
       simp only[pick,eW]at hr
       subst hr
       obtain⟨en,rfl,hoo,gh,cs,j1,j2,rfl,j4,j5⟩:=dA hm hq
       obtain⟨hv,⟨_,hlo⟩,⟨hhi,_⟩,⟨_,hmx⟩⟩:=opn ha
       obtain⟨y,kk,rfl,hy⟩:=hhi _ rfl
       obtain rfl:=hlo rfl
       obtain rfl:=hmx rfl
       simp only[bM]at hv
       obtain⟨gh',k1,k2⟩:=hv
       rw[j1]at k1;have e1:=ax k1;subst e1
       have hx:a.eval x=.slice gh.ad l.length gh.cap:=by rw[j2];simpa using k2
       have hO':Ow m [bR.arr gh.g cs e']:=by simpa using hO
       refine Ub hE j4 hl' (da a [x,y]) ho (by rw[bQ a [x,y] (by simp),hx]) (by rw[bQ a [x,y] (by simp),hy]) fun hA=>?_
       have hge:=GG.gw (x:=⟨gh.g,gh.ad,gh.cap,l'.length,default⟩) (hf (ct+1) (by omega) (by omega)).1
       refine⟨m,g.jm (ct+1) ⟨gh.g,gh.ad,gh.cap,l'.length,default⟩,[bR.arr gh.g cs e'],rfl,by simpa using St.refl hO',hge,rfl,rfl,GG.eU,⟨_,[],rfl,⟨_,cs,GG.cM,rfl,rfl,hA,fun h=>⟨(j5 h).1,by rw[<- (j5 h).1];exact hA,(j5 h).2.2⟩⟩,rfl⟩,?_⟩
       simp only[bP,bM]
       exact⟨_,GG.cM,rfl⟩
     . cases h
   . cases h
 . rename_i q c n
   split at h
   . rename_i j
     split at h
     . rename_i hj
       have hj:=aZ hj
       subst hj
       refine⟨_,h,by simp,fun g a m Lr Lm hf _ ha hr hm hO=>?_⟩
       simp only[pick,eW]at hm
       subst hm
       obtain⟨hv,⟨_,hlo⟩,⟨hhi,_⟩,⟨_,hmx⟩⟩:=opn ha
       obtain⟨y,kk,rfl,hy⟩:=hhi _ rfl
       obtain rfl:=hlo rfl
       obtain rfl:=hmx rfl
       simp only[bM]at hv
       obtain⟨gh,b,k1,k2,k3,k4,k5⟩:=hv
       have hx:a.eval x=.slice (fP gh.g) n.toNat gh.cap:=by simpa using k3
       refine A6 hE (da a [x,y]) ho (by rw[bQ a [x,y] (by simp),hx]) (by rw[bQ a [x,y] (by simp),hy]) ?_
       refine⟨m,g,[],rfl,by simpa using St.refl hO,GE.refl g,rfl,rfl,fun i h=>absurd rfl h,rfl,?_⟩
       simp only[bP,bM]
       exact⟨gh,[],fP gh.g,k1,rfl,by rw[k2];exact dM.Se m k5,by rw[k2];exact dM.Se m k5,k4,fun _=>(gR _ _ _).symm⟩
     . cases h
   . cases h
 . split at h
   . rename_i hn
     simp only[al]at hn
     split at h
     . rename_i hj
       have hj:=aZ hj
       subst hj
       cases v<;>first|(cases hn.1;done)|skip
       refine⟨_,h,sL.pure rfl rfl rfl fun g a m ha=>?_⟩
       obtain⟨hv,⟨_,hlo⟩,⟨hhi,_⟩,⟨_,hmx⟩⟩:=opn ha
       obtain⟨y,kk,rfl,hy⟩:=hhi _ rfl
       have e1:ilo=none:=by cases ilo<;>cases imx<;>first|rfl|(cases hn.2;done)
       have e2:imx=none:=by cases ilo<;>cases imx<;>first|rfl|(cases hn.2;done)
       obtain rfl:=hlo e1
       obtain rfl:=hmx e2
       simp only[bM]at hv
       have hx:a.eval x=.slice none 0 0:=by simpa using hv
       refine A6 hE (da a [x,y]) ho (by rw[bQ a [x,y] (by simp),hx]) (by rw[bQ a [x,y] (by simp),hy]) ⟨rfl,?_⟩
       simp only[val,bP,bM]
     . cases h
   . obtain⟨l,hl,h'⟩:=aa.1 h
     clear h;have h:=h';clear h'
     split at h
     . rename_i i
       obtain⟨l',hl',h'⟩:=aa.1 h
       clear h;have h:=h';clear h'
       have gen:k (val (.sl ec.2 l'))=some r->dT P K o (.one v::vs) ob ct k r:=fun h=>by
        refine⟨_,h,sL.pure rfl rfl rfl fun g a m ha=>?_⟩;obtain⟨hv,⟨hlo,_⟩,⟨_,hhi⟩,⟨_,hmx⟩⟩:=opn ha;obtain⟨y,kk,rfl,hy⟩:=hlo _ rfl;obtain rfl:=hhi rfl;obtain rfl:=hmx rfl;obtain⟨ad,n,hx,hEl⟩:=mg hl hv;refine QH hE hEl hl' (da a [x,y]) ho (by rw[bQ a [x,y] (by simp),hx]) (by rw[bQ a [x,y] (by simp),hy]) fun a' c2 hA=>⟨rfl,?_⟩
        simp only[val,bP,bM];exact⟨a',c2,rfl,hA⟩
       unfold aay at h
       split at h
       . rename_i q d l1 _ _
         split at h
         . rename_i hd _
           subst hd
           have e0:l=l1:=by
            simp only[Xj,Qr]at hl;split at hl
            . cases hl;rfl
            . cases hl
           subst e0
           refine⟨_,h,sL.pure rfl rfl rfl fun g a m ha=>?_⟩
           obtain⟨hv,⟨hlo,_⟩,⟨_,hhi⟩,⟨_,hmx⟩⟩:=opn ha
           obtain⟨y,kk,rfl,hy⟩:=hlo _ rfl
           obtain rfl:=hhi rfl
           obtain rfl:=hmx rfl
           simp only[bM]at hv
           obtain⟨gh,l0,ad,k1,k2,hEl,k3,k4,k5⟩:=hv
           have hx:a.eval x=.slice ad l.length (gh.cap-l0.length):=by simpa using k2
           obtain⟨j,hij,hj,rfl⟩:=yh hl'
           have hcap:(l0++l).length<=gh.cap:=k3.sC.2.2
           refine A5 hE hEl j hij (da a [x,y]) ho (by rw[bQ a [x,y] (by simp),hx]) (by rw[bQ a [x,y] (by simp),hy]) hj ⟨rfl,?_⟩
           simp only[val,bP,bM]
           have hl2:(l0++l.take j).length=l0.length+j:=by rw[ay,aM,Nat.min_eq_left hj]
           refine⟨gh,l0++l.take j,dG ad (gh.cap-l0.length) j (zK K ec.2),k1,?_,?_,by rw[az,List.take_append_drop];exact k3,by rw[az,List.take_append_drop];exact k4,fun hlt=>?_⟩
           . rw[hl2,Nat.sub_sub]
           . rw[hl2,<- Nat.sub_sub];exact hEl.from j hj
           . rw[hl2]at hlt ⊢
             rw[k5 (by omega),PU hlt]
         . exact gen h
       . exact gen h
     . rename_i i
       obtain⟨l',hl',h'⟩:=aa.1 h
       clear h;have h:=h';clear h'
       refine⟨_,h,sL.pure rfl rfl rfl fun g a m ha=>?_⟩
       obtain⟨hv,⟨_,hlo⟩,⟨hhi,_⟩,⟨_,hmx⟩⟩:=opn ha
       obtain⟨y,kk,rfl,hy⟩:=hhi _ rfl
       obtain rfl:=hlo rfl
       obtain rfl:=hmx rfl
       obtain⟨ad,n,hx,hEl⟩:=mg hl hv
       refine Xd hE hEl hl' (da a [x,y]) ho (by rw[bQ a [x,y] (by simp),hx]) (by rw[bQ a [x,y] (by simp),hy]) fun a' c2 hA=>⟨rfl,?_⟩
       simp only[val,bP,bM]
       exact⟨a',c2,rfl,hA⟩
     . rename_i i j
       obtain⟨l',hl',h'⟩:=aa.1 h
       clear h;have h:=h';clear h'
       refine⟨_,h,sL.pure rfl rfl rfl fun g a m ha=>?_⟩
       obtain⟨hv,⟨hlo,_⟩,⟨hhi,_⟩,⟨_,hmx⟩⟩:=opn ha
       obtain⟨y,kk,rfl,hy⟩:=hlo _ rfl
       obtain⟨z,kk',rfl,hz⟩:=hhi _ rfl
       obtain rfl:=hmx rfl
       obtain⟨ad,n,hx,hEl⟩:=mg hl hv
       refine Ua hE hEl hl' (da a [x,y,z]) ho (by rw[bQ a [x,y,z] (by simp),hx]) (by rw[bQ a [x,y,z] (by simp),hy]) (by rw[bQ a [x,y,z] (by simp),hz]) fun a' c2 hA=>⟨rfl,?_⟩
       simp only[val,bP,bM]
       exact⟨a',c2,rfl,hA⟩
     . rename_i j mm
       obtain⟨u,hmj,h'⟩:=aa.1 h
       clear h;have h:=h';clear h'
       have hmj:=gi hmj
       subst hmj
       obtain⟨l',hl',h'⟩:=aa.1 h
       clear h;have h:=h';clear h'
       refine⟨_,h,sL.pure rfl rfl rfl fun g a m ha=>?_⟩
       obtain⟨hv,⟨_,hlo⟩,⟨hhi,_⟩,⟨hmx,_⟩⟩:=opn ha
       obtain⟨y,kk,rfl,hy⟩:=hhi _ rfl
       obtain⟨z,kk',rfl,hz⟩:=hmx _ rfl
       obtain rfl:=hlo rfl
       obtain⟨ad,n,hx,hEl⟩:=mg hl hv
       refine HA hE hEl hl' (da a [x,y,z]) ho (by rw[bQ a [x,y,z] (by simp),hx]) (by rw[bQ a [x,y,z] (by simp),hy]) (by rw[bQ a [x,y,z] (by simp),hz]) fun a' hA=>⟨rfl,?_⟩
       simp only[val,bP,bM]
       exact⟨a',rfl,hA⟩
     . cases h
theorem DZ{lo hi:Option Value}{w:World}{n:Nat}{i j:Int}(hl:(lo=none/\i=0)\/∃kk,lo=some (.int kk i))(hh:(hi=none/\j=n)\/∃kk,hi=some (.int kk j))(h:0<=i/\i<=j/\j<=(n:Int)):
 (Instr.sliceBounds false n n lo hi none).run P w=.ok (i.toNat,j.toNat,n) w:=by
 obtain⟨i,rfl⟩:∃z:Nat,i=(z:Int):=⟨i.toNat,by omega⟩
 obtain⟨j,rfl⟩:∃z:Nat,j=(z:Int):=⟨j.toNat,by omega⟩
 have h1:i<=j:=by omega
 have h2:j<=n:=by omega
 rcases hl with⟨rfl,hi0⟩|⟨kk,rfl⟩
 . have:i=0:=by omega
   subst this
   rcases hh with⟨rfl,hj0⟩|⟨kk,rfl⟩
   . have:j=n:=by omega
     subst this
     simp[Instr.sliceBounds]
   . simp[Instr.sliceBounds,dQ h2]
 . rcases hh with⟨rfl,hj0⟩|⟨kk',rfl⟩
   . have:j=n:=by omega
     subst this
     simp[Instr.sliceBounds,dQ h1]
   . simp[Instr.sliceBounds,dQ h1,dQ h2]
theorem Kr(l:List UInt8)(i j:Nat):(Proofs.YtjfkdglgecgjfaaGreat.str l).extract i j=Proofs.YtjfkdglgecgjfaaGreat.str ((l.take j).drop i):=by
 apply ByteArray.ext;rw[ByteArray.data_extract];show l.toArray.extract i j=((l.take j).drop i).toArray;apply Array.ext';rw[Array.toList_extract,List.extract_eq_take_drop,List.drop_take]
theorem JZ(hT:dx P K tt){t:TypeId}{x:Operand}{lo hi mx:Option Operand}(ho:o.op=.slice t x lo hi mx){l:List UInt8}{vs va vb vc:List (AV S)}{ilo ihi imx:Option Int}(h1:oU lo vs=some (ilo,va))(h2:oU hi va=some (ihi,vb))(h3:oU mx vb=some (imx,vc))
 (h:F1 tt t l ilo ihi imx k=some r):dT P K o (.one (.str l)::vs) ob ct k r:=by
 have hox:o.op.operands.toList=x::(lo.toList++(hi.toList++(mx.toList++[]))):=by rw[ho];simp[Op.operands]
 unfold F1 at h
 obtain⟨ti,hti,h'⟩:=aa.1 h
 clear h;have h:=h';clear h'
 have htd:=(hT.ty t ti hti).td
 split at h
 . rename_i hd
   rw[hd]at htd
   obtain⟨l',hl',h'⟩:=aa.1 h
   clear h;have h:=h';clear h'
   obtain⟨p,q,e1,e2,hpq,hq,rfl⟩:=A9 hl'
   refine⟨_,h,sL.pure rfl rfl rfl fun g a m ha=>?_⟩
   rw[hox]at ha
   obtain⟨w,r,e0,k1,k2⟩:=ha
   cases e0
   simp only[bP,bM]at k1
   obtain⟨k3,k4,k4'⟩:=iB h1 k2
   obtain⟨k5,k6,k6'⟩:=iB h2 k3
   obtain⟨_,_,k8⟩:=iB h3 k5
   obtain rfl:=k8 rfl
   have hx:a.eval x=.string (Proofs.YtjfkdglgecgjfaaGreat.str l):=by simpa using k1
   have hsz:(Proofs.YtjfkdglgecgjfaaGreat.str l).size=l.length:=by simp[ByteArray.size]
   have hb:(Instr.sliceBounds false (Proofs.YtjfkdglgecgjfaaGreat.str l).size (Proofs.YtjfkdglgecgjfaaGreat.str l).size (lo.map a.eval) (hi.map a.eval) none).run P m.w=.ok ((ilo.getD 0).toNat,(ihi.getD l.length).toNat,(Proofs.YtjfkdglgecgjfaaGreat.str l).size) m.w:=by
    refine DZ ?_ ?_ ⟨by rw[e1];omega,by rw[e1,e2];omega,by rw[e2,hsz];omega⟩
    . cases ilo with
      |none=>obtain rfl:=k4' rfl;exact .inl ⟨rfl,rfl⟩
      |some i=>obtain⟨y,kk,rfl,hy⟩:=k4 _ rfl;exact .inr ⟨kk,by simp[hy]⟩
    . cases ihi with
      |none=>obtain rfl:=k6' rfl;exact .inl ⟨rfl,by rw[hsz];rfl⟩
      |some i=>obtain⟨y,kk,rfl,hy⟩:=k6 _ rfl;exact .inr ⟨kk,by simp[hy]⟩
   rw[e1,e2,aG,aG]at hb
   have hu:P.underlying t=some .string:=htd
   have hrun:(Instr.sliceAt t (.string (Proofs.YtjfkdglgecgjfaaGreat.str l)) (lo.map a.eval) (hi.map a.eval) none).run P m.w=.ok (.string (Proofs.YtjfkdglgecgjfaaGreat.str ((l.take q).drop p))) m.w:=by
    rw[<- Kr];simp[Instr.sliceAt,Instr.slice,run_underlying hu,hb]
   refine bI.val (v:=.string (Proofs.YtjfkdglgecgjfaaGreat.str ((l.take q).drop p))) ?_ ⟨rfl,by simp only[val,bP,bM]⟩
   simp[execOp,ho,hx,hrun]
 . cases h
theorem JY(hT:dx P K tt){t:TypeId}{x:Operand}{lo hi mx:Option Operand}(ho:o.op=.slice t x lo hi mx){q off:Nat}{vs va vb vc:List (AV S)}{ilo ihi imx:Option Int}(h1:oU lo vs=some (ilo,va))(h2:oU hi va=some (ihi,vb))(h3:oU mx vb=some (imx,vc))
 (h:uX tt t q off ilo ihi imx k=some r):dT P K o (.one (.ptr q off)::vs) ob ct k r:=by
 have hox:o.op.operands.toList=x::(lo.toList++(hi.toList++(mx.toList++[]))):=by rw[ho];simp[Op.operands]
 unfold uX at h
 obtain⟨ti,hti,h'⟩:=aa.1 h
 clear h;have h:=h';clear h'
 have htd:=(hT.ty t ti hti).td
 split at h
 . rename_i n e hd
   rw[hd]at htd
   obtain⟨ei,hei,h'⟩:=aa.1 h
   clear h;have h:=h';clear h'
   obtain⟨inf,g1,g2,g3,g4⟩:=info_parts (hT.ty e ei hei).info
   split at h
   . rename_i hs
     have hs:=ah hs
     obtain⟨u,hc,h'⟩:=aa.1 h
     clear h;have h:=h';clear h'
     have hc:=gi hc
     refine⟨_,h,sL.pure rfl rfl rfl fun g a m ha=>?_⟩
     rw[hox]at ha
     obtain⟨w,r,e0,k1,k2⟩:=ha
     cases e0
     simp only[bP,bM]at k1
     obtain⟨k3,k4,k4'⟩:=iB h1 k2
     obtain⟨k5,k6,k6'⟩:=iB h2 k3
     obtain⟨_,_,k8⟩:=iB h3 k5
     obtain rfl:=k8 rfl
     obtain⟨gh,b,l1,l2,l3⟩:=k1
     have hx:a.eval x=.pointer (some ⟨b,off,none⟩):=by simpa using l3
     have hb:(Instr.sliceBounds false n n (lo.map a.eval) (hi.map a.eval) none).run P m.w=.ok ((ilo.getD 0).toNat,(ihi.getD n).toNat,n) m.w:=by
      refine DZ ?_ ?_ ⟨hc.1,hc.2.2.1,hc.2.2.2⟩
      . cases ilo with
        |none=>obtain rfl:=k4' rfl;exact .inl ⟨rfl,rfl⟩
        |some i=>obtain⟨y,kk,rfl,hy⟩:=k4 _ rfl;exact .inr ⟨kk,by simp[hy]⟩
      . cases ihi with
        |none=>obtain rfl:=k6' rfl;exact .inl ⟨rfl,rfl⟩
        |some i=>obtain⟨y,kk,rfl,hy⟩:=k6 _ rfl;exact .inr ⟨kk,by simp[hy]⟩
     generalize ilo.getD 0=i at*
     generalize ihi.getD n=j at*
     have hu:P.underlying t=some (.array n e):=htd
     have hne:¬ n=i.toNat:=by omega
     have hs1:inf.size=1:=by rw[g3,hs]
     have hrun:(Instr.sliceAt t (.pointer (some ⟨b,off,none⟩)) (lo.map a.eval) (hi.map a.eval) none).run P m.w=.ok (.slice (some ⟨b,off+i.toNat,none⟩) (j.toNat-i.toNat) (n-i.toNat)) m.w:=by
      simp[Instr.sliceAt,run_underlying hu,Instr.sureAddr,hb,sizeOf,typeInfo,g1,hs1,hne,Addr.add_mid]
     refine bI.val (v:=.slice (some ⟨b,off+i.toNat,none⟩) (j.toNat-i.toNat) (n-i.toNat)) ?_ ⟨rfl,?_⟩
     . simp[execOp,ho,hx,hrun]
     . simp only[val,bP,bM]
       exact⟨gh,b,l1,l2,by rw[show(j-i).toNat=j.toNat-i.toNat by omega],hc.1,hc.2.2.1,hc.2.2.2⟩
   . cases h
 . cases h
theorem Qs(hT:dx P K tt){t:TypeId}{x:Operand}{lo hi mx:Option Operand}(ho:o.op=.slice t x lo hi mx){q off:Nat}{vs va vb vc:List (AV S)}{ilo ihi imx:Option Int}(h1:oU lo vs=some (ilo,va))(h2:oU hi va=some (ihi,vb))(h3:oU mx vb=some (imx,vc))
 (h:uW tt t q off ilo ihi imx ob k=some r):dT P K o (.one (.ptr q off)::vs) ob ct k r:=by
 have hox:o.op.operands.toList=x::(lo.toList++(hi.toList++(mx.toList++[]))):=by rw[ho];simp[Op.operands]
 unfold uW at h
 obtain⟨ti,hti,h'⟩:=aa.1 h
 clear h;have h:=h';clear h'
 have htd:=(hT.ty t ti hti).td
 split at h
 . rename_i n e hd
   rw[hd]at htd
   obtain⟨ei,hei,h'⟩:=aa.1 h
   clear h;have h:=h';clear h'
   obtain⟨⟨ver,ao⟩,hq,h'⟩:=aa.1 h
   clear h;have h:=h';clear h'
   obtain⟨inf,g1,g2,g3,g4⟩:=info_parts (hT.ty e ei hei).info
   split at h
   . rename_i T n1 f hao
     simp only at hao;subst hao
     split at h
     . rename_i hc
       simp only[al]at hc
       obtain⟨hn,hs,hn1,hn2⟩:=hc
       have hn:=ah hn
       subst hn
       have hs:=ah hs
       have hn1:=aj hn1
       have hn2:=aj hn2
       refine⟨_,h,by simp,fun g a m Lr Lm hf _ ha hr hm hO=>?_⟩
       simp only[pick,eW]at hr
       subst hr
       obtain⟨en,rfl,hoo,gh',b',us,j1,j2,rfl,j4⟩:=dA hm hq
       rw[hox]at ha
       obtain⟨w,r,e0,k1,k2⟩:=ha
       cases e0
       simp only[bP,bM]at k1
       obtain⟨k3,k4,k4'⟩:=iB h1 k2
       obtain⟨k5,k6,k6'⟩:=iB h2 k3
       obtain⟨_,_,k8⟩:=iB h3 k5
       obtain rfl:=k8 rfl
       obtain rfl:=k6' rfl
       obtain rfl:=k4' rfl
       obtain⟨gh,b,l1,l2,l3⟩:=k1
       rw[l1]at j1;have e1:=ax j1;subst e1
       rw[l2]at j2;have e2:=ax j2;subst e2
       have hx:a.eval x=.pointer (some ⟨b,0,none⟩):=by simpa using l3
       have hcs:=mB j4
       simp only[bM]at hcs
       have hb:(Instr.sliceBounds false n1 n1 none none none).run P m.w=.ok (0,n1,n1) m.w:=by simp[Instr.sliceBounds]
       have hu:P.underlying t=some (.array n1 e):=htd
       have hne:¬ n1=0:=by omega
       have hs1:inf.size=1:=by rw[g3,hs]
       have hrun:(Instr.sliceAt t (.pointer (some ⟨b,0,none⟩)) none none none).run P m.w=.ok (.slice (some ⟨b,0,none⟩) n1 n1) m.w:=by
        simp[Instr.sliceAt,run_underlying hu,Instr.sureAddr,hb,sizeOf,typeInfo,g1,hs1,hne,Addr.add_mid]
       have hS:St (bK [bR.box b us.toArray T]) m m [bR.box b us.toArray T]:=St.refl (by simpa using hO)
       have hlen:(lb (α:=UInt8) n1 f).length=n1:=by simp[lb]
       have hA:fZ rI m 1 (some b) us.toArray (some ⟨b,0,none⟩) n1 (lb n1 f):=fZ.ofBytes (by rw[hlen];exact Nat.le_refl _) (by unfold maxLen;omega) (fun z u hz=>by
        have hzl:z<n1:=by rw[<- hlen];exact(List.getElem?_eq_some_iff.1 hz).1
        unfold lb at hz;rw[List.getElem?_map,List.getElem?_range hzl]at hz;cases hz;rw[aL,List.getElem?_toArray,hcs,List.getElem?_map,List.getElem?_range hzl];rfl) (by rw[hcs];simp)
       obtain⟨m',r1,r2,r3,r4⟩:=St.Fp Mq hS.toArr hA
       have hst:(execOp a.eval o).run P m.w=.ok (.value (.slice (some ⟨b,0,none⟩) n1 n1)) m.w:=by simp[execOp,ho,hx,hrun]
       refine bI.val (v:=.slice (some ⟨b,0,none⟩) n1 n1) hst ?_
       refine⟨m',g,[],r1,by simpa using r3,GE.refl g,rfl,rfl,fun i h=>absurd rfl h,rfl,?_⟩
       simp only[bP,bM]
       exact⟨_,_,by exact congrArg (fun z=>[Value.slice (some ⟨b,0,none⟩) z n1]) hlen.symm,r4⟩
     . cases h
   . cases h
 . cases h
theorem QG{a:Act}{Kt_:Kt}{t e:TypeId}{zv:Value}{sz bytes cap n:Nat}{ad:Option Addr}{x y z:Operand}{k1 k2:IntKind}{i j:Int}{m:Mem}{b6:Value->World->Prop}(hT:dE P t e zv sz bytes)(hi:0<=i/\i<=j/\j<=(n:Int))(hc:n<=cap)(hK:Ke a Kt_)(ho:o.op=.slice t x (some y) (some z) none)
 (hxx:gV Kt_ x=some (.slice ad n cap)) (hy:gV Kt_ y=some (.int k1 i)) (hz:gV Kt_ z=some (.int k2 j)) (hp:b6 (.slice (dG ad cap i.toNat sz) (j.toNat-i.toNat) (cap-i.toNat)) m.w):bI P o a m.w b6:=by
 obtain⟨i,rfl⟩:∃q:Nat,i=(q:Int):=⟨i.toNat,by omega⟩
 obtain⟨j,rfl⟩:∃q:Nat,j=(q:Int):=⟨j.toNat,by omega⟩
 have h1:j<=cap:=by omega
 have h2:i<=j:=by omega
 have:=kX (P:=P) (w:=m.w) hT ad n cap i j (some (.int k1 i)) (some (.int k2 j)) (by simp[Instr.sliceBounds,dQ h1,dQ h2])
 unfold bI execOp
 simp only[ho,ak,Option.map_none,hK.ev hxx,hK.ev hy,hK.ev hz,Sem.run_bind,this,Result.andThen_ok,Sem.run_pure]
 exact hp
theorem WQ(hT:dx P K tt){t:TypeId}{x:Operand}{lo hi mx:Option Operand}(ho:o.op=.slice t x lo hi mx){v:CV S}{vs va vb vc:List (AV S)}{ilo ihi imx:Option Int}(h1:oU lo vs=some (ilo,va))(h2:oU hi va=some (ihi,vb))(h3:oU mx vb=some (imx,vc))
 (h:FP tt t v ilo ihi imx ob ct k=some r):dT P K o (.one v::vs) ob ct k r:=by
 have hox:o.op.operands.toList=x::(lo.toList++(hi.toList++(mx.toList++[]))):=by rw[ho];simp[Op.operands]
 have opn:∀{g:GG S} {m:Mem} {a:Act},oT K g m a o.op.operands.toList (.one v::vs)->bM K g m v [a.eval x]/\((∀j,ilo=some j->∃y kk,lo=some y/\a.eval y=.int kk j)/\(ilo=none->lo=none))/\((∀j,ihi=some j->∃y kk,hi=some y/\a.eval y=.int kk j)/\(ihi=none->hi=none))/\((∀j,imx=some j->∃y kk,mx=some y/\a.eval y=.int kk j)/\(imx=none->mx=none)):=fun{g m a} ha=>by
  rw[hox]at ha;obtain⟨w,r,e,k1,k2⟩:=ha;cases e;simp only[bP]at k1;obtain⟨k3,k4⟩:=iB h1 k2;obtain⟨k5,k6⟩:=iB h2 k3;obtain⟨k7,k8⟩:=iB h3 k5;exact⟨k1,k4,k6,k8⟩
 unfold FP at h
 split at h
 . rename_i q
   obtain⟨ec,hec,h'⟩:=aa.1 h
   clear h;have h:=h';clear h'
   obtain⟨hu,ei,hei,hE,hb⟩:=kh hT hec
   obtain⟨⟨ver,ao⟩,hq,h'⟩:=aa.1 h
   clear h;have h:=h';clear h'
   split at h
   . rename_i e' c' f l i hao
     simp only at hao;subst hao
     split at h
     . rename_i hc _
       subst hc
       obtain⟨u,hcc,h'⟩:=aa.1 h
       clear h;have h:=h';clear h'
       have hcc:=gi hcc
       refine⟨_,h,by simp,fun g a m Lr Lm hf _ ha hr hm hO=>?_⟩
       simp only[pick,eW]at hm
       subst hm
       obtain⟨en,rfl,hoo,gh,cs,j1,j2,rfl,j4,j5⟩:=dA hr hq
       obtain⟨hv,⟨hlo,_⟩,⟨_,hhi⟩,⟨_,hmx⟩⟩:=opn ha
       obtain⟨y,kk,rfl,hy⟩:=hlo _ rfl
       obtain rfl:=hhi rfl
       obtain rfl:=hmx rfl
       simp only[bM]at hv
       obtain⟨gh',k1,k2⟩:=hv
       rw[j1]at k1;have e1:=ax k1;subst e1
       have hx:a.eval x=.slice gh.ad gh.n gh.cap:=by simpa using k2
       have hn:=j4.sC.2.2
       have hi2:0<=i/\i<=(gh.n:Int):=by omega
       have hn2:gh.n<=gh.cap:=by omega
       refine QI (ad:=gh.ad) (cap:=gh.cap) (n:=gh.n) (i:=i) (k:=kk) hE hi2 hn2 (da a [x,y]) ho (by rw[bQ a [x,y] (by simp),hx]) (by rw[bQ a [x,y] (by simp),hy]) ?_
       refine⟨m,g,[],rfl,by simpa using St.refl hO,GE.refl g,rfl,rfl,fun i h=>absurd rfl h,rfl,?_⟩
       simp only[bP,bM]
       refine⟨gh,j1,?_,by omega,by omega,by omega⟩
       rw[show((l.length:Int)-i).toNat=gh.n-i.toNat by omega]
     . cases h
   . rename_i e' c' f l i j hao
     simp only at hao;subst hao
     split at h
     . rename_i hc _
       subst hc
       obtain⟨u,hcc,h'⟩:=aa.1 h
       clear h;have h:=h';clear h'
       have hcc:=gi hcc
       refine⟨_,h,by simp,fun g a m Lr Lm hf _ ha hr hm hO=>?_⟩
       simp only[pick,eW]at hm
       subst hm
       obtain⟨en,rfl,hoo,gh,cs,j1,j2,rfl,j4,j5⟩:=dA hr hq
       obtain⟨hv,⟨hlo,_⟩,⟨hhi,_⟩,⟨_,hmx⟩⟩:=opn ha
       obtain⟨y,kk,rfl,hy⟩:=hlo _ rfl
       obtain⟨z,kk',rfl,hz⟩:=hhi _ rfl
       obtain rfl:=hmx rfl
       simp only[bM]at hv
       obtain⟨gh',k1,k2⟩:=hv
       rw[j1]at k1;have e1:=ax k1;subst e1
       have hx:a.eval x=.slice gh.ad gh.n gh.cap:=by simpa using k2
       have hn:=j4.sC.2.2
       have hi2:0<=i/\i<=j/\j<=(gh.n:Int):=by omega
       have hn2:gh.n<=gh.cap:=by omega
       refine QG (ad:=gh.ad) (cap:=gh.cap) (n:=gh.n) (i:=i) (j:=j) hE hi2 hn2 (da a [x,y,z]) ho (by rw[bQ a [x,y,z] (by simp),hx]) (by rw[bQ a [x,y,z] (by simp),hy]) (by rw[bQ a [x,y,z] (by simp),hz]) ?_
       refine⟨m,g,[],rfl,by simpa using St.refl hO,GE.refl g,rfl,rfl,fun i h=>absurd rfl h,rfl,?_⟩
       simp only[bP,bM]
       refine⟨gh,j1,?_,by omega,by omega,by omega⟩
       rw[show(j-i).toNat=j.toNat-i.toNat by omega]
     . cases h
   . cases h
 . exact ok_slice hT ho h1 h2 h3 h
theorem Xl{q:Nat}{s:CV S}{l x:List UInt8}(h:ZN q s l=some x):(∃off n,s=.pt q .u8 off n/\x=(l.drop off.toNat).take n.toNat)\/Xj .u8 s=some x:=by
 cases s with
 |pt o' c off n=>
  left
  unfold ZN at h
  simp only at h
  split at h
  . rename_i hc hq _
    obtain rfl:=ah hq
    subst hc
    exact⟨off,n,rfl,(ax h).symm⟩
  . cases h
 |_=>exact .inr h
theorem DS:∀{o:Nat} {x:CV S} {vs ws vs1:List (CV S)} {v0:CV S} {cs:List Value},wm o x vs=some ws->cutAt o vs=some (v0::vs1)->cJ K g m vs cs->∃pre c1 post,cs=pre++c1++post/\pre.length=o/\bM K g m v0 c1/\∀(g':GG S) (m':Mem),GE g g'->Le m m'->∀c2,bM K g' m' x c2->cJ K g' m' ws (pre++c2++post)
 |0,x,[],_,_,_,_,h,_,_=>by simp[wm]at h
 |0,x,v::vs,ws,vs1,v0,cs,h,hc,hv=>by
  simp only[wm,af]at h;subst h;simp only[cutAt,af,bc]at hc;obtain⟨rfl,rfl⟩:=hc;obtain⟨c1,c2,rfl,h1,h2⟩:=hv;exact⟨[],c1,c2,by simp,rfl,h1,fun g' m' hg hm c3 h3=>⟨c3,c2,by simp,h3,h2.mono hg hm⟩⟩
 |o+1,x,[],_,_,_,_,h,_,_=>by simp[wm]at h
 |o+1,x,v::vs,ws,vs1,v0,cs,h,hc,hv=>by
  unfold wm at h;unfold cutAt at hc;obtain⟨c1,c2,rfl,h1,h2⟩:=hv;have hl:=h1.len;split at h
  . rename_i hle;rw[hle]at hc;have hle:=aj hle;obtain⟨ws',hw,rfl⟩:=ab.1 h;obtain⟨pre,c3,post,rfl,k2,k3,k4⟩:=DS hw hc h2;refine⟨c1++pre,c3,post,by simp,by rw[ay];omega,k3,fun g' m' hg hm c4 h4=>⟨c1,pre++c4++post,by simp,h1.mono hg hm,k4 g' m' hg hm c4 h4⟩⟩
  . cases h
termination_by _ _ vs=>vs.length
theorem CB{pre post:List Value}{n:Nat}{h:Nat->Value}(q:Nat):(pre++(List.range n).map h++post)[q]?=if q<pre.length then pre[q]? else if q<pre.length+n then some (h (q-pre.length))else post[q-pre.length-n]?:=by
 by_cases h1:q<pre.length
 . rw[if_pos h1,az,List.getElem?_append_left h1]
 . rw[if_neg h1];by_cases h2:q<pre.length+n
   . rw[if_pos h2,List.getElem?_append_left (by rw[ay,aQ,List.length_range];exact h2),List.getElem?_append_right (by omega),List.getElem?_map,List.getElem?_range (by omega)];rfl
   . rw[if_neg h2,List.getElem?_append_right (by rw[ay,aQ,List.length_range];omega),ay,aQ,List.length_range,Nat.sub_sub]
theorem acv{x y:Operand}{a:Act}{Kt_:Kt}{m:Mem}{b6:Value->World->Prop}{t t2 e:TypeId}{zv:Value}{bytes b n i j i2 j2 c c2:Nat}{T:TypeId}{pre post:List Value}{kk:IntKind}{f:Nat->Int}(hT:dE P t e zv 1 bytes)(hK:Ke a Kt_)
 (hO:Ow m [bR.box b (pre++(List.range n).map (fun q=>Value.int kk (f q))++post).toArray T]) (hij:i<=j/\j<=n) (hij2:i2<=j2/\j2<=n)
 (ho:o.op=.call ⟨.builtin .copy,#[x,y],#[t,t2]⟩) (hx:gV Kt_ x=some (.slice (some ⟨b,pre.length+i,none⟩) (j-i) c)) (hy:gV Kt_ y=some (.slice (some ⟨b,pre.length+i2,none⟩) (j2-i2) c2))
 (hp:∀m',Le m m'->St (bK [bR.box b (pre++(List.range n).map (fun q=>Value.int kk (f q))++post).toArray T]) m m' [bR.box b (pre++(List.range n).map (fun q=>Value.int kk (JM f i i2 (Nat.min (j2-i2) (j-i)) q))++post).toArray T]->b6 (.int .i64 ((Nat.min (j2-i2) (j-i):Nat):Int)) m'.w):bI P o a m.w b6:=by
 generalize hus:(pre++(List.range n).map (fun q=>Value.int kk (f q))++post)=us at*
 have hsz:us.length=pre.length+n+post.length:=by rw[<- hus];simp;omega
 generalize hcnt:Nat.min (j2-i2) (j-i)=cnt at*
 have hc1:cnt<=j2-i2:=by rw[<- hcnt];exact Nat.min_le_left _ _
 have hc2:cnt<=j-i:=by rw[<- hcnt];exact Nat.min_le_right _ _
 generalize hxs:(List.range cnt).map (fun q=>Value.int kk (f (i2+q)))=xs
 have hlen:xs.length=cnt:=by rw[<- hxs];simp
 have hcell:∀k,m.w.cell? ⟨b,k,none⟩=us[k]?:=fun k=>by
  rw[Cq (St.refl hO) 0 rfl];simp
 have hf:(Builtin.firstCells 1 cnt (.slice (some ⟨b,pre.length+i2,none⟩) (j2-i2) c2)).run P m.w=.ok xs.toArray m.w:=by
  refine run_firstCells_some (P:=P) m.w 1 cnt ⟨b,pre.length+i2,none⟩ (j2-i2) c2 xs (by rw[hlen,Nat.mul_one]) (fun q u hu=>?_);rw[Addr.add_mid,hcell,<- hus,CB];have hq:q<cnt:=by rw[<- hlen];exact(List.getElem?_eq_some_iff.1 hu).1
  rw[if_neg (by omega),if_pos (by omega)];rw[<- hxs,List.getElem?_map,List.getElem?_range hq]at hu;rw[<- hu,show pre.length+i2+q-pre.length=i2+q by omega];rfl
 have hS0:=St.refl hO
 have hb:=hS0.Cp 0 rfl
 have hst:=run_storeCells_at P b (pre.length+i) T xs 0 us.toArray m.w hb (by rw[hlen];simp only[Nat.add_zero,List.size_toArray];omega) (fun u hu=>by
  rw[<- hxs]at hu;obtain⟨c,_,rfl⟩:=List.mem_map.1 hu;rfl)
 simp only[Nat.add_zero]at hst
 have hput:putAt us.toArray (pre.length+i) xs=(pre++(List.range n).map (fun q=>Value.int kk (JM f i i2 cnt q))++post).toArray:=by
  apply Array.ext_getElem?;intro q;rw[tK _ _ _ (by rw[hlen,List.size_toArray];omega),List.getElem?_toArray,List.getElem?_toArray,CB,hlen];by_cases h1:pre.length+i<=q/\q<pre.length+i+cnt
  . rw[if_pos h1,if_neg (by omega),if_pos (by omega),<- hxs,List.getElem?_map,List.getElem?_range (by omega)];unfold JM;rw[if_pos ⟨by omega,by omega⟩,show q-pre.length-i+i2=i2+(q-(pre.length+i))by omega];rfl
  . rw[if_neg h1,<- hus,CB];split
    . rfl
    . split
      . unfold JM;rw[if_neg (by omega)]
      . rfl
 have hw:m.w.grownBy (m.w.setRow b (putAt us.toArray (pre.length+i) xs)) (some b):=⟨rfl,rfl,rfl,by simp,fun k' _ hk'=>setRow_other m.w b k' _ (fun e=>hk' (by rw[e]))⟩
 have hr:=hS0.write hw (by simp) (setRow_heap m.w b us.toArray _ T _ hb)
 have hrun:(Builtin.copy_ #[t,t2] o.type #[.slice (some ⟨b,pre.length+i,none⟩) (j-i) c,.slice (some ⟨b,pre.length+i2,none⟩) (j2-i2) c2]).run P m.w=.ok (.int .i64 (cnt:Nat)) (m.w.setRow b (putAt us.toArray (pre.length+i) xs)):=by
  simp[Builtin.copy_,run_underlying hT.gH,Builtin.lenOf,kY hT,hcnt,hf,hst,putAt,goInt]
 unfold bI execOp
 simp only[ho,resolve,invoke,builtin,Sem.run_bind,Sem.run_pure,Result.andThen_ok,aX,aF,bp,hK.ev hx,hK.ev hy,hrun]
 rw[<- hput]at hp
 exact hp ⟨_,m.ok⟩ hr.le hr
theorem abA{x y:Operand}{a:Act}{Kt_:Kt}{m:Mem}{b6:Value->World->Prop}{t t2 e:TypeId}{zv:Value}{bytes b n i j c c2:Nat}{T:TypeId}{pre post:List Value}{f:Nat->UInt8}{l:List UInt8}{a2:Option Addr}(hT:dE P t e zv 1 bytes)(hK:Ke a Kt_)
 (hO:Ow m [bR.box b (pre++(List.range n).map (fun q=>U8 (f q))++post).toArray T]) (hij:i<=j/\j<=n) (hE:dM rI m 1 a2 c2 l)
 (ho:o.op=.call ⟨.builtin .copy,#[x,y],#[t,t2]⟩) (hx:gV Kt_ x=some (.slice (some ⟨b,pre.length+i,none⟩) (j-i) c)) (hy:gV Kt_ y=some (.slice a2 l.length c2))
 (hp:∀m',Le m m'->St (bK [bR.box b (pre++(List.range n).map (fun q=>U8 (f q))++post).toArray T]) m m' [bR.box b (pre++(List.range n).map (fun q=>U8 (XJ f i (Nat.min l.length (j-i)) l q))++post).toArray T]->b6 (.int .i64 ((Nat.min l.length (j-i):Nat):Int)) m'.w):bI P o a m.w b6:=by
 generalize hus:(pre++(List.range n).map (fun q=>U8 (f q))++post)=us at*
 have hsz:us.length=pre.length+n+post.length:=by rw[<- hus];simp;omega
 generalize hcnt:Nat.min l.length (j-i)=cnt at*
 have hc1:cnt<=l.length:=by rw[<- hcnt];exact Nat.min_le_left _ _
 have hc2:cnt<=j-i:=by rw[<- hcnt];exact Nat.min_le_right _ _
 generalize hxs:(l.take cnt).map U8=xs
 have hlen:xs.length=cnt:=by rw[<- hxs];simp;omega
 have hf:(Builtin.firstCells 1 cnt (.slice a2 l.length c2)).run P m.w=.ok xs.toArray m.w:=by rw[<- hxs];exact OT hE cnt hc1
 have hS0:=St.refl hO
 have hb:=hS0.Cp 0 rfl
 have hst:=run_storeCells_at P b (pre.length+i) T xs 0 us.toArray m.w hb (by rw[hlen];simp only[Nat.add_zero,List.size_toArray];omega) (fun u hu=>by
  rw[<- hxs]at hu;obtain⟨c,_,rfl⟩:=List.mem_map.1 hu;rfl)
 simp only[Nat.add_zero]at hst
 have hput:putAt us.toArray (pre.length+i) xs=(pre++(List.range n).map (fun q=>U8 (XJ f i cnt l q))++post).toArray:=by
  apply Array.ext_getElem?;intro q;rw[tK _ _ _ (by rw[hlen,List.size_toArray];omega),List.getElem?_toArray,List.getElem?_toArray,CB,hlen];by_cases h1:pre.length+i<=q/\q<pre.length+i+cnt
  . rw[if_pos h1,if_neg (by omega),if_pos (by omega),<- hxs,List.getElem?_map,List.getElem?_take,if_pos (by omega),List.getElem?_eq_getElem (by omega)];unfold XJ;rw[if_pos ⟨by omega,by omega⟩,List.getD_eq_getElem?_getD,show q-pre.length-i=q-(pre.length+i)by omega,List.getElem?_eq_getElem (by omega)];rfl
  . rw[if_neg h1,<- hus,CB];split
    . rfl
    . split
      . unfold XJ;rw[if_neg (by omega)]
      . rfl
 have hw:m.w.grownBy (m.w.setRow b (putAt us.toArray (pre.length+i) xs)) (some b):=⟨rfl,rfl,rfl,by simp,fun k' _ hk'=>setRow_other m.w b k' _ (fun e=>hk' (by rw[e]))⟩
 have hr:=hS0.write hw (by simp) (setRow_heap m.w b us.toArray _ T _ hb)
 have hcnt':Nat.min (j-i) l.length=cnt:=by rw[<- hcnt];exact Nat.min_comm _ _
 have hrun:(Builtin.copy_ #[t,t2] o.type #[.slice (some ⟨b,pre.length+i,none⟩) (j-i) c,.slice a2 l.length c2]).run P m.w=.ok (.int .i64 (cnt:Nat)) (m.w.setRow b (putAt us.toArray (pre.length+i) xs)):=by
  simp[Builtin.copy_,run_underlying hT.gH,Builtin.lenOf,kY hT,hcnt,hcnt',hf,hst,putAt,goInt]
 unfold bI execOp
 simp only[ho,resolve,invoke,builtin,Sem.run_bind,Sem.run_pure,Result.andThen_ok,aX,aF,bp,hK.ev hx,hK.ev hy,hrun]
 rw[<- hput]at hp
 exact hp ⟨_,m.ok⟩ hr.le hr
theorem Tm{t t2:TypeId}{ec:TypeId×Co}{zv:Value}{bytes:Nat}(hE:dE P t ec.1 zv (zK K ec.2) bytes){x y:Operand}(ho:o.op=.call ⟨.builtin .copy,#[x,y],#[t,t2]⟩){q off n:Nat}{i j:Int}{s:CV S}(h:Gx ec q off n i j s ob k=some r):dT P K o [.one (.px q off n i j),.one s] ob ct k r:=by
 have hox:o.op.operands.toList=[x,y]:=by rw[ho];rfl
 unfold Gx at h;split at h
 . rename_i q' off' n' i' j' kk0 hco;split at h
   . rename_i hbe;simp only[al,Nat.beq_eq]at hbe;obtain⟨rfl,rfl,rfl⟩:=hbe;obtain⟨⟨ver,ao⟩,hq,h'⟩:=aa.1 h;clear h;have h:=h';clear h';split at h
     . rename_i T cs hao;simp only at hao;subst hao;obtain⟨cs1,hcs1,h'⟩:=aa.1 h;clear h;have h:=h';clear h';split at h
       . rename_i n1 kk f ws;split at h
         . rename_i hn;have hn:=ah hn;subst hn;obtain⟨cs',hcs',h'⟩:=aa.1 h;clear h;have h:=h';clear h';refine⟨_,h,by simp,fun g a m Lr Lm hf _ ha hr hm hO=>?_⟩;simp only[pick,eW]at hr;subst hr;obtain⟨e,rfl,hoo,gh',b',us,j1,j2,rfl,j4⟩:=dA hm hq;rw[hox]at ha;obtain⟨hv,hw⟩:=eo ha;simp only[bP,bM]at hv hw;obtain⟨gh,b,k1,k2,k3,k4,k5,k6⟩:=hv;rw[k1]at j1;have e1:=ax j1;subst e1;rw[k2]at j2;have e2:=ax j2;subst e2;obtain⟨gh2,b2,l1,l2,l3,l4,l5,l6⟩:=hw;rw[k1]at l1;have e1:=ax l1;subst e1;rw[k2]at l2;have e2:=ax l2;subst e2;obtain⟨pre,c1,post,rfl,p2,p3,p4⟩:=DS hcs' hcs1 j4;simp only[bM]at p3;subst p3;subst p2;have hz:zK K ec.2=1:=by rw[hco];rfl
           rw[hz]at hE;obtain⟨i,rfl⟩:∃z:Nat,i=(z:Int):=⟨i.toNat,by omega⟩;obtain⟨j,rfl⟩:∃z:Nat,j=(z:Int):=⟨j.toNat,by omega⟩;obtain⟨i',rfl⟩:∃z:Nat,i'=(z:Int):=⟨i'.toNat,by omega⟩;obtain⟨j',rfl⟩:∃z:Nat,j'=(z:Int):=⟨j'.toNat,by omega⟩;have hx:a.eval x=.slice (some ⟨b,pre.length+i,none⟩) (j-i) (n1-i):=by
            have:((j:Int)-(i:Int)).toNat=j-i:=by omega
            simpa[this]using k3
           have hy:a.eval y=.slice (some ⟨b,pre.length+i',none⟩) (j'-i') (n1-i'):=by
            have:((j':Int)-(i':Int)).toNat=j'-i':=by omega
            simpa[this]using l3
           have hmin:ib ((j:Int)-(i:Int)) ((j':Int)-(i':Int))=((Nat.min (j'-i') (j-i):Nat):Int):=by
            unfold ib;rcases Nat.lt_or_ge (j'-i') (j-i)with h|h
            . rw[if_pos (by omega),show Nat.min (j'-i') (j-i)=j'-i' from Nat.min_eq_left (by omega)];omega
            . rw[if_neg (by omega),show Nat.min (j'-i') (j-i)=j-i from Nat.min_eq_right h];omega
           refine acv (n:=n1) (i:=i) (j:=j) (i2:=i') (j2:=j') hE (da a [x,y]) (by simpa using hO) ⟨by omega,by omega⟩ ⟨by omega,by omega⟩ ho (by rw[bQ a [x,y] (by simp),hx]) (by rw[bQ a [x,y] (by simp),hy]) fun m' hle hS=>?_
           refine⟨m',g,_,rfl,by simpa using hS,GE.refl g,rfl,rfl,fun i h=>absurd rfl h,⟨_,[],rfl,⟨gh,b,_,k1,k2,rfl,p4 g m' (GE.refl g) hle _ ?_⟩,rfl⟩,?_⟩
           . simp only[bM,aG,hmin]
           . simp only[bP,bM,hmin]
         . cases h
       . cases h
     . cases h
   . cases h
 . rename_i hco;obtain⟨l,hl,h'⟩:=aa.1 h;clear h;have h:=h';clear h';obtain⟨⟨ver,ao⟩,hq,h'⟩:=aa.1 h;clear h;have h:=h';clear h';split at h
   . rename_i T cs hao;simp only at hao;subst hao;obtain⟨cs1,hcs1,h'⟩:=aa.1 h;clear h;have h:=h';clear h';split at h
     . rename_i n1 f ws;split at h
       . rename_i hn;have hn:=ah hn;subst hn;obtain⟨cs',hcs',h'⟩:=aa.1 h;clear h;have h:=h';clear h';refine⟨_,h,by simp,fun g a m Lr Lm hf _ ha hr hm hO=>?_⟩;simp only[pick,eW]at hr;subst hr;obtain⟨e,rfl,hoo,gh',b',us,j1,j2,rfl,j4⟩:=dA hm hq;rw[hox]at ha;obtain⟨hv,hw⟩:=eo ha;simp only[bP]at hv hw;simp only[bM]at hv;obtain⟨gh,b,k1,k2,k3,k4,k5,k6⟩:=hv;rw[k1]at j1;have e1:=ax j1;subst e1;rw[k2]at j2;have e2:=ax j2;subst e2;obtain⟨ad,c2,hy,hEl⟩:=mg hl hw;obtain⟨pre,c1,post,rfl,p2,p3,p4⟩:=DS hcs' hcs1 j4;simp only[bM]at p3;subst p3;subst p2;have hz:zK K ec.2=1:=by rw[hco];rfl
         rw[hz]at hE;obtain⟨i,rfl⟩:∃z:Nat,i=(z:Int):=⟨i.toNat,by omega⟩;obtain⟨j,rfl⟩:∃z:Nat,j=(z:Int):=⟨j.toNat,by omega⟩;have hx:a.eval x=.slice (some ⟨b,pre.length+i,none⟩) (j-i) (n1-i):=by
          have:((j:Int)-(i:Int)).toNat=j-i:=by omega
          simpa[this]using k3
         have hmin:ib (List.length (α:=UInt8) l:Int) ((j:Int)-(i:Int))=((Nat.min (List.length (α:=UInt8) l) (j-i):Nat):Int):=by
          unfold ib;rcases Nat.lt_or_ge (j-i) (List.length (α:=UInt8) l)with h|h
          . rw[if_pos (by omega),show Nat.min (List.length (α:=UInt8) l) (j-i)=j-i from Nat.min_eq_right (by omega)];omega
          . rw[if_neg (by omega),show Nat.min (List.length (α:=UInt8) l) (j-i)=List.length (α:=UInt8) l from Nat.min_eq_left h]
         refine abA (l:=l) (n:=n1) (i:=i) (j:=j) hE (da a [x,y]) (by simpa using hO) ⟨by omega,by omega⟩ hEl ho (by rw[bQ a [x,y] (by simp),hx]) (by rw[bQ a [x,y] (by simp),hy];rfl) fun m' hle hS=>?_
         refine⟨m',g,_,rfl,by simpa using hS,GE.refl g,rfl,rfl,fun i h=>absurd rfl h,⟨_,[],rfl,⟨gh,b,_,k1,k2,rfl,p4 g m' (GE.refl g) hle _ ?_⟩,rfl⟩,?_⟩
         . simp only[bM,aG,hmin]
         . simp only[bP,bM,hmin]
       . cases h
     . cases h
   . cases h
 . cases h
theorem Hk(hT:dx P K tt){t t2:TypeId}{x y:Operand}(ho:o.op=.call ⟨.builtin .copy,#[x,y],#[t,t2]⟩){d s:CV S}(h:Fa tt t d s ob k=some r):dT P K o [.one d,.one s] ob ct k r:=by
 have hox:o.op.operands.toList=[x,y]:=by rw[ho];rfl
 unfold Fa at h;obtain⟨ec,hec,h'⟩:=aa.1 h;clear h;have h:=h';clear h';obtain⟨hu,ei,hei,hE,hb⟩:=kh hT hec;split at h
 . rename_i q c off n;obtain⟨⟨ver,ao⟩,hq,h'⟩:=aa.1 h;clear h;have h:=h';clear h';split at h
   . rename_i e c' full l hao;simp only at hao;subst hao;split at h
     . rename_i hc1 hc2 hc3 _ _ _;subst hc1;subst hc2;rw[hc3]at hE;obtain⟨x2,hx2,h'⟩:=aa.1 h;clear h;have h:=h';clear h';refine⟨_,h,by simp,fun g a m Lr Lm hf _ ha hr hm hO=>?_⟩;simp only[pick,eW]at hr;subst hr;obtain⟨en,rfl,hoo,gh,cs,j1,j2,rfl,j4,j5⟩:=dA hm hq;rw[hox]at ha;obtain⟨hv,hw⟩:=eo ha;simp only[bP,bM]at hv;obtain⟨gh',k1,k2,k3,k4,k5⟩:=hv;rw[j1]at k1;have e1:=ax k1;subst e1;have hx:a.eval x=.slice (dG gh.ad gh.cap off.toNat 1) n.toNat (gh.cap-off.toNat):=by simpa[zK,B0]using k2
       have hO':Ow m [bR.arr gh.g cs e]:=by simpa using hO
       have hA:fZ rI m 1 gh.g cs gh.ad gh.cap l:=j4;have hfit:off.toNat+n.toNat<=l.length:=by omega
       obtain⟨a2,c2,hy,hsrc⟩:∃(a2:Option Addr) (c2:Nat),a.eval y=.slice a2 x2.length c2/\∀z,z<=x2.length->(Builtin.firstCells 1 z (.slice a2 x2.length c2)).run P m.w=.ok ((x2.take z).map U8).toArray m.w:=by
        rcases Xl hx2 with⟨off2,n2,rfl,hxe⟩|hs
        . simp only[bP,bM]at hw;obtain⟨gh',p1,p2,p3,p4,p5⟩:=hw;rw[j1]at p1;have e1:=ax p1;subst e1;have hl2:((l.drop off2.toNat).take n2.toNat).length=n2.toNat:=by rw[aM,bh];omega
          have hlx:x2.length=n2.toNat:=(congrArg List.length hxe).trans hl2;refine⟨dG gh.ad gh.cap off2.toNat 1,gh.cap-off2.toNat,by rw[hlx];simpa[zK,B0]using p2,fun z hz=>?_⟩;have:=Uk (P:=P) (c2:=gh.cap-off2.toNat) 0 (St.refl hO') rfl hA (off:=off2.toNat) (n:=n2.toNat) (by have:List.length (α:=UInt8) l=gh.n:=j2;omega) z (Nat.le_trans hz (Nat.le_of_eq hlx));rw[hlx,hxe];exact this
        . simp only[bP]at hw;obtain⟨ad,c2,p1,p2⟩:=mg hs hw;exact⟨ad,c2,p1,fun z hz=>OT p2 z hz⟩
       have hlen:(Vm (α:=UInt8) l off.toNat (x2.take n.toNat)).length=gh.n:=Eq.trans (CJ (α:=UInt8) (l:=l) (x:=x2.take n.toNat) (o:=off.toNat) (show off.toNat<=List.length (α:=UInt8) l by have:List.length (α:=UInt8) l=gh.n:=j2;omega)) j2;refine Xb hE (da a [x,y]) 0 (St.refl hO') rfl hA hfit hsrc ho (by rw[bQ a [x,y] (by simp),hx]) (by rw[bQ a [x,y] (by simp),hy]) fun m' cs2 hle hS hA2 hsz=>?_
       rw[show((n.toNat:Nat):Int)=n by omega];refine⟨m',g,[bR.arr gh.g cs2 e],rfl,by simpa using hS,GE.refl g,rfl,rfl,fun i h=>absurd rfl h,⟨_,[],rfl,⟨gh,cs2,j1,hlen,rfl,hA2,fun hf'=>?_⟩,rfl⟩,by simp only[bP,bM]⟩;obtain⟨q1,q2⟩:=j5 hf';refine⟨q1,?_,fun b hb=>by rw[hsz];exact q2.2 b hb⟩;rw[<- q1];exact hA2
     . cases h
   . cases h
 . exact Tm hE ho h
 . cases h
theorem Dy(hT:dx P K tt){t:TypeId}{x:Operand}(ho:o.op=.call ⟨.builtin .clear,#[x],#[t]⟩){v:CV S}(h:zf tb tt t v ob k=some r):dT P K o [.one v] ob ct k r:=by
 have hox:o.op.operands.toList=[x]:=by rw[ho];rfl
 unfold zf at h;obtain⟨ec,hec,h'⟩:=aa.1 h;clear h;have h:=h';clear h';obtain⟨ei,hei,h'⟩:=aa.1 h;clear h;have h:=h';clear h';obtain⟨z,hz,h'⟩:=aa.1 h;clear h;have h:=h';clear h';obtain⟨hu,ei',hei',hE,hb⟩:=kh hT hec;rw[hei]at hei';cases hei';have hty:=hT.ty _ _ hei;split at h
 . rename_i q c off n;obtain⟨⟨ver,ao⟩,hq,h'⟩:=aa.1 h;clear h;have h:=h';clear h';split at h
   . rename_i e' c' full l hao;simp only at hao;subst hao;split at h
     . rename_i hc1 hc2 _ _;subst hc1;subst hc2;refine⟨_,h,by simp,fun g a m Lr Lm hf _ ha hr hm hO=>?_⟩;simp only[pick,eW]at hr;subst hr;obtain⟨en,rfl,hoo,gh,cs,j1,j2,rfl,j4,j5⟩:=dA hm hq;rw[hox]at ha;have hv:=dW ha;simp only[bP,bM]at hv;obtain⟨gh',k1,k2,k3,k4,k5⟩:=hv;rw[j1]at k1;have e1:=ax k1;subst e1;have hx:a.eval x=.slice (dG gh.ad gh.cap off.toNat (zK K ec.2)) n.toNat (gh.cap-off.toNat):=by simpa using k2
       have hO':Ow m [bR.arr gh.g cs e']:=by simpa using hO
       have hfit:off.toNat+n.toNat<=l.length:=by omega
       have hRz:RK K ec.2 m z (zeroOf ei).cells.toList:=by rw[mh hty];exact tJ (K:=K) (g:=g) (m:=m) hz (kQ hty.VO)
       refine T9 (cF K ec.2) hE (da a [x]) 0 (St.refl hO') rfl j4 hfit hRz (by rw[mh hty];exact KC hty.VO) ho (by rw[bQ a [x] (by simp),hx]) fun m' cs2 hle hS hA2 hsz=>?_
       refine⟨m',g,[bR.arr gh.g cs2 e'],rfl,by simpa using hS,GE.refl g,rfl,rfl,fun i h=>absurd rfl h,⟨_,[],rfl,⟨gh,cs2,j1,(Io hfit).trans j2,rfl,hA2,fun hf'=>?_⟩,rfl⟩,by simp only[bP,db];exact⟨[],rfl,rfl⟩⟩;obtain⟨q1,q2⟩:=j5 hf';refine⟨q1,?_,fun b hb=>by rw[hsz];exact q2.2 b hb⟩;rw[<- q1];exact hA2
     . cases h
   . cases h
 . cases h
theorem DB{t:TypeId}{x y:Operand}(ho:o.op=.index t x y)(hu:P.underlying t=some .string){l:List UInt8}{iv:AV S}{i:Int}(hi:idxOf iv=some i){c:UInt8}(hc:idx l i=some c)(h:k (val (.u8 c))=some r):dT P K o [.one (.str l),iv] ob ct k r:=by
 have hox:o.op.operands.toList=[x,y]:=by rw[ho];rfl
 refine lZ hox h fun g a m hv hw=>?_
 simp only[bM]at hv;have hx:a.eval x=.string (Proofs.YtjfkdglgecgjfaaGreat.str l):=by simpa using hv
 obtain⟨kk,hy⟩:=ou hi hw;obtain⟨jn,rfl,hj⟩:=tv hc;refine bI.val (v:=.int .u8 (c.toNat:Int)) ?_ ⟨rfl,by simp only[val,bP,bM]⟩;have hlt:=(List.getElem?_eq_some_iff.1 hj).1;have he:=(List.getElem?_eq_some_iff.1 hj).2;have hb:((⟨l.toArray⟩:ByteArray))[jn]?=some c:=by
  have hs:jn<(⟨l.toArray⟩:ByteArray).size:=by simpa[ByteArray.size]using hlt
  rw[getElem?_pos (⟨l.toArray⟩:ByteArray) jn hs];exact congrArg some (by rw[<- he];rfl)
 simp[execOp,ho,hx,hy,Instr.index,asIntOf,run_underlying hu,hb]
theorem JW(hT:dx P K tt){t e:TypeId}{x y:Operand}(ho:o.op=.index t x y){n:Nat}(hu:P.underlying t=some (.array n e)){ei:TI S}(hei:tt e=some ei)(hs:ei.size=1)(hA:fu ei.d=false){kk:IntKind}{f:Nat->Int}{iv:AV S}{i:Int}(hi:idxOf iv=some i)(hc:0<=i/\i<(n:Int))(h:k (val (.int kk (ry f i)))=some r):dT P K o [.agg [.ai n kk f],iv] ob ct k r:=by
 have hox:o.op.operands.toList=[x,y]:=by rw[ho];rfl
 refine⟨_,h,eC fun g a m ha=>?_⟩;rw[hox]at ha;obtain⟨hv,hw⟩:=eo ha;simp only[bP]at hv;obtain⟨cs,hx,hcs⟩:=hv;have hcs:=mB hcs;simp only[bM]at hcs;subst hcs;obtain⟨ky,hy⟩:=ou hi hw;have hag:=(hT.ty e ei hei).agg;rw[hA,hs]at hag;obtain⟨d',i',hu',hi',hd',hs'⟩:=js hag;obtain⟨i,rfl⟩:∃z:Nat,i=(z:Int):=⟨i.toNat,by omega⟩;have AZ:i<n:=by omega
 refine⟨.int kk (f i),?_,by simp only[val,bP,bM];simp[ry]⟩;have hcell:(((List.range n).map (fun q=>Value.int kk (f q))).toArray)[i*1]?=some (.int kk (f i)):=by
  rw[List.getElem?_toArray,Nat.mul_one,List.getElem?_map,List.getElem?_range AZ];rfl
 have hb:(isAgg e).run P m.w=.ok false m.w:=by rw[kW hu',hd']
 have hlt:(i:Int)<(n:Int):=hc.2;simp[execOp,ho,hx,hy,Instr.index,asIntOf,run_underlying hu,part,hb,sizeOf,typeInfo,hi',hs',AZ]
end E
end
end Go.Proofs.YtjfkdglgecgjfaaGreat
