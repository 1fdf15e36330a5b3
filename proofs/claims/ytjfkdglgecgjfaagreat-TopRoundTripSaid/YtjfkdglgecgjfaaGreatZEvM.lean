/- Part of the proof. -/
import Derived.Test.YtjfkdglgecgjfaaGreatZEvR
namespace Go.Proofs.YtjfkdglgecgjfaaGreat
section
open Go.RowKit G
namespace E
variable {S:Nat->Type}{tb:Tb S}{K:dN tb}{P:Program}{o:Oper}{xs:List (AV S)}{ob:List (Nat×Nat×AO S)}{ct:Nat}{γ:Type}{k:fD S->Option γ}{r:γ}{tt:TypeId->Option (TI S)}{g:GG S}{m:Mem}
def GG.gI(g:GG S)(i:Nat)(x:Gh):GG S:={g with bk:=fun j=>if j=i then some x else g.bk j}
theorem GG.eV{i:Nat}{x:Gh}(h:g.bk i=none):GE g (g.gI i x):=
 ⟨fun j y hy=>by unfold GG.gI;simp only;by_cases e:j=i
                 . subst e;rw[h]at hy;cases hy
                 . rw[if_neg e];exact hy,fun _ _ h=>h,fun _ _ h=>h⟩
theorem GG.cj{i:Nat}{x:Gh}:(g.gI i x).bk i=some x:=by simp[GG.gI]
theorem GG.dQ{x:Gh}:∀i,(g.gI (ct+1) x).bk i≠g.bk i->ct+1<=i/\i<ct+32:=fun i h=>by
 by_cases e:i=ct+1
 . omega
 . exact absurd (by simp[GG.gI,e]) h
theorem MJ:∀{v:CV S},VZ v=true->∀u∈ri v,u.oneCell'=true
 |.int _ _,_| .u8 _,_| .tt _,_| .str _,_| .dW,_| .iV,_| .ez,_| .xN,_| .uM,_=>by intro u hu;simp[ri]at hu;subst hu;rfl
 |.a8 _ _,_| .ai _ _ _,_=>by intro u hu;simp[ri]at hu;obtain⟨_,_,rfl⟩:=hu;rfl
theorem GK{vs:List (CV S)}(h:vs.all VZ=true):∀u∈gA vs,u.oneCell'=true:=by
 intro u hu;unfold gA at hu;obtain⟨v,hv,hu⟩:=List.mem_flatMap.1 hu;exact MJ (aE.1 h v hv) u hu
theorem jV{t:TypeId}{i:TI S}(h:Bs P t i):(zeroOf i).cells.toList=gA i.zero:=by
 unfold zeroOf;split
 . simp[Value.cells]
 . rename_i hA;have h1:=h.len;rw[h.one hA]at h1;have h2:=GK h.Ri
   match hz:gA i.zero,h1 with
   |[v],_=>
    rw[hz]at h2
    have:=h2 v (by simp)
    cases v<;>first|rfl|cases this
theorem ny{a:AV S}{vs:List (CV S)}{v:Value}(h:ml a=some vs)(hv:bI K g m a v):cb K g m vs v.cells.toList:=by
 cases a with
 |one x=>
  simp only[ml,af]at h;subst h
  simp only[bI]at hv
  have h1:=ND hv v (by simp)
  have:v.cells= #[v]:=by cases v<;>first|rfl|cases h1
  rw[this];exact gB hv
 |agg l=>
  simp only[ml,af]at h;subst h
  simp only[bI]at hv
  obtain⟨cs,rfl,h1⟩:=hv
  simpa[Value.cells]using h1
 |dv l=>cases h
theorem Jt(hf:fQ g ct){b:Nat}{cs:Array Value}{vs:List (CV S)}{t:TypeId}{m':Mem}(hle:Le m m')(hS:St [] m m' [.box b cs t])(hc:cb K g m vs cs.toList):
 wV K g m ct [] [] {v:=.one (.ptr (ct+1) 0),add:=[(ct+1,.box t vs)]} (.pointer (some ⟨b,0,none⟩)) m'.w:=by
 have hg:=GG.eV (x:=⟨some b,none,0,0,default⟩) (hf (ct+1) (by omega) (by omega)).1
 refine⟨m',g.gI (ct+1) ⟨some b,none,0,0,default⟩,[.box b cs t],rfl,by simpa using hS,hg,rfl,rfl,GG.dQ,⟨_,[],rfl,⟨_,b,cs.toList,GG.cj,rfl,by simp,hc.mono hg hle⟩,rfl⟩,?_⟩
 simp only[bI,bH]
 exact⟨_,b,GG.cj,rfl,rfl⟩
theorem z6(hT:c9 P K tt){t:TypeId}(ho:o.op=.alloc t){ti:TI S}(hti:tt t=some ti)(h:k {v:=.one (.ptr (ct+1) 0),add:=[(ct+1,.box t ti.zero)]}=some r):dp P K o xs ob ct k r:=by
 refine⟨_,h,by simp,fun g a m Lr Lm hf _ ha hr hm hO=>?_⟩;simp only[pick,dS]at hr hm;subst hr;subst hm;have hty:=hT.ty t ti hti;have hz:(P.info? t).map (·.zero)=some (some (zeroOf ti)):=by
  obtain⟨inf,h1,h2,_⟩:=info_parts hty.info;simp[h1,h2]
 exact SV (zeroOf ti) (Ke.nil a) (St.refl (Ow.nil m)) ho hz fun m' b _ hle hS=>Jt hf hle (by simpa using hS) (by rw[jV hty];exact iZ hty.Ri)
theorem H4{t:TypeId}{x:Operand}(ho:o.op=.box t x){v:AV S}{cs:List (CV S)}(hc:ml v=some cs)(h:k {v:=.one (.ptr (ct+1) 0),add:=[(ct+1,.box t cs)]}=some r):dp P K o [v] ob ct k r:=by
 refine⟨_,h,by simp,fun g a m Lr Lm hf _ ha hr hm hO=>?_⟩;simp only[pick,dS]at hr hm;subst hr;subst hm;rw[ho]at ha;have hv:=ny hc (dk ha);exact Xv (cw a [x]) (St.refl (Ow.nil m)) ho (bJ a [x] (by simp)) fun m' b _ hle hS=>Jt hf hle (by simpa using hS) hv
theorem zS{ti:TI S}{vs:Option (List (CV S))}{one:Option (CV S)}{rd:List Nat}(h:rH ti vs one rd k=some r):(ep ti.d=true/\∃l,vs=some l/\k {v:=.agg l,rd:=rd}=some r)\/(ep ti.d=false/\∃v,one=some v/\k {v:=.one v,rd:=rd}=some r):=by
 unfold rH at h;split at h
 . rename_i hA;obtain⟨l,h1,h2⟩:=aa.1 h;exact .inl ⟨hA,l,h1,h2⟩
 . rename_i hA;obtain⟨l,h1,h2⟩:=aa.1 h;exact .inr ⟨hA,l,h1,h2⟩
def I1(P:Program)(K:dN tb)(g:GG S)(m:Mem)(o:Oper)(a:Act)(ti:TI S)(off:Nat)(vs:List (CV S)):Prop:=
 (∀l,ep ti.d=true->(cutAt off vs).bind (nC ti.size)=some l->∃u,(execOp a.eval o).run P m.w=.ok (.value u) m.w/\bI K g m (.agg l) u)/\
  (∀v,ep ti.d=false->qg off vs=some v->∃u,(execOp a.eval o).run P m.w=.ok (.value u) m.w/\bI K g m (.one v) u)
theorem Dt(hT:c9 P K tt){t:TypeId}{x:Operand}(ho:o.op=.load t x){ti:TI S}(hti:tt t=some ti){a:Act}{b p off:Nat}{ecs:List Value}{vs:List (CV S)}(hx:a.eval x=.pointer (some ⟨b,p+off,none⟩))(hA:∀i u,ecs[i]?=some u->m.w.cell? ⟨b,p+i,none⟩=some u)(hv:cb K g m vs ecs):I1 P K g m o a ti off vs:=by
 have hag:=(hT.ty t ti hti).agg;constructor
 . intro l hA' hl;obtain⟨l',hl',hl⟩:=aa.1 hl;obtain⟨k1,k2⟩:=nB hl' hv;obtain⟨k3,k4⟩:=ql hl k1;rw[hA']at hag;have hlen:((ecs.drop off).take ti.size).length=ti.size:=by rw[aH];omega
   refine⟨.agg ((ecs.drop off).take ti.size).toArray,?_,by simp only[bI];exact⟨_,rfl,k3⟩⟩;have hrun:=wu (P:=P) (w:=m.w) (b:=b) (o:=p+off) (cs:=(ecs.drop off).take ti.size) (t:=t) (by rw[hlen];exact hag) (fun i u hu=>by
    rw[List.getElem?_take]at hu;split at hu
    . rw[List.getElem?_drop]at hu;rw[Nat.add_assoc];exact hA _ _ hu
    . cases hu)
   simp[execOp,ho,hx,Instr.loadAt,Instr.sureAddr,hrun]
 . intro v hA' hl;obtain⟨u,k1,k2⟩:=ua hl hv;rw[hA']at hag;refine⟨u,?_,by simp only[bI];exact k2⟩;have hrun:=rQ (P:=P) (w:=m.w) (b:=b) (o:=p+off) (t:=t) hag (hA off u k1);simp[execOp,ho,hx,Instr.loadAt,Instr.sureAddr,hrun]
theorem ja{q ver:Nat}{ao:AO S}{v:CV S}{av:AV S}{x:Operand}(hx:o.op.operands.toList=[x])(hq:look q ob=some (ver,ao))(h:k {v:=av,rd:=[q]}=some r)
 (hrun:∀(g:GG S) (a:Act) (m:Mem) (e:bM),bH K g m v [a.eval x]->g.oo ver=some (ao,e)->gw K g m q ao e->Ow m [e]->∃u,(execOp a.eval o).run P m.w=.ok (.value u) m.w/\bI K g m av u):dp P K o [.one v] ob ct k r:=by
 refine⟨_,h,by simp,fun g a m Lr Lm hf _ ha hr hm hO=>?_⟩
 simp only[pick,dS]at hm
 subst hm
 obtain⟨e,rfl,hoo,hob⟩:=cS hr hq
 rw[hx]at ha
 have hv:=dk ha
 simp only[bI]at hv
 have hO':Ow m [e]:=by simpa using hO
 obtain⟨u,h1,h2⟩:=hrun g a m e hv hoo hob hO'
 exact bC.val h1 (wV.pure rfl hO' h2)
theorem LA{f:Nat->UInt8}{n:Nat}{i:Int}(h:0<=i/\i<(n:Int)):((List.range n).map (fun j=>Value.int .u8 ((f j).toNat:Int)))[i.toNat]?=some (.int .u8 ((oM f i).toNat:Int)):=by
 have:i.toNat<n:=by omega
 simp[this,oM]
theorem Hc{f:Nat->Int}{kk:IntKind}{n:Nat}{i:Int}(h:0<=i/\i<(n:Int)):((List.range n).map (fun j=>Value.int kk (f j)))[i.toNat]?=some (.int kk (oM f i)):=by
 have:i.toNat<n:=by omega
 simp[this,oM]
theorem DH(hT:c9 P K tt){t:TypeId}{x:Operand}(ho:o.op=.load t x){v:CV S}(h:Cg tb tt t v ob k=some r):dp P K o [.one v] ob ct k r:=by
 have hox:o.op.operands.toList=[x]:=by rw[ho];rfl
 unfold Cg at h;obtain⟨ti,hti,h'⟩:=aa.1 h;clear h;have h:=h';clear h';split at h
 . rename_i q off;obtain⟨⟨ver,ao⟩,hq,h'⟩:=aa.1 h;clear h;have h:=h';clear h';split at h
   . rename_i T cs hao;simp only at hao;subst hao;have key:∀(g:GG S) (a:Act) (m:Mem) (e:bM),bH K g m (.ptr q off) [a.eval x]->g.oo ver=some (.box T cs,e)->gw K g m q (.box T cs) e->Ow m [e]->I1 P K g m o a ti off cs:=fun g a m e hv _ hob hO=>by
      simp only[bH]at hv;obtain⟨gh,b,k1,k2,k3⟩:=hv;obtain⟨gh',b',us,j1,j2,rfl,j4⟩:=hob;rw[k1]at j1;have e1:=au j1;subst e1;rw[k2]at j2;have e2:=au j2;subst e2;have hx:a.eval x=.pointer (some ⟨b,0+off,none⟩):=by rw[aJ];simpa using k3
      exact Dt (K:=K) (g:=g) hT ho hti hx (fun i u hu=>by rw[aJ,yU (St.refl hO) 0 rfl];simpa using hu) j4
     rcases zS h with⟨hA,l,hl,h⟩|⟨hA,w,hl,h⟩
     . exact ja hox hq h fun g a m e h1 h2 h3 h4=>(key g a m e h1 h2 h3 h4).1 l hA hl
     . exact ja hox hq h fun g a m e h1 h2 h3 h4=>(key g a m e h1 h2 h3 h4).2 w hA hl
   . cases h
 . rename_i c y off;have key:∀(g:GG S) (a:Act) (m:Mem),bH K g m (.el c y off) [a.eval x]->I1 P K g m o a ti off (MS tb c y):=fun g a m hv=>by
    simp only[bH]at hv;obtain⟨b,p,ecs,k1,k2,k3⟩:=hv;have hx:a.eval x=.pointer (some ⟨b,p+off,none⟩):=by simpa using k1
    exact Dt (K:=K) (g:=g) hT ho hti hx (fun i u hu=>(k3 i u hu).2) (wL k2)
   rcases zS h with⟨hA,l,hl,h⟩|⟨hA,w,hl,h⟩
   . exact⟨_,h,dF fun g a m ha=>by rw[hox]at ha;have:=dk ha;simp only[bI]at this;exact(key g a m this).1 l hA hl⟩
   . exact⟨_,h,dF fun g a m ha=>by rw[hox]at ha;have:=dk ha;simp only[bI]at this;exact(key g a m this).2 w hA hl⟩
 . rename_i q ver0 c y j off;obtain⟨⟨ver,ao⟩,hq,h'⟩:=aa.1 h;clear h;have h:=h';clear h';split at h
   . rename_i hver;have hver:=ah hver;simp only at hver;subst hver;have key:∀(g:GG S) (a:Act) (m:Mem) (e:bM),bH K g m (.GN q ver c y j off) [a.eval x]->g.oo ver=some (ao,e)->gw K g m q ao e->Ow m [e]->I1 P K g m o a ti off (MS tb c y):=fun g a m e hv hoo hob hO=>by
      simp only[bH]at hv;obtain⟨gh,b,p,e',f,l,en,k1,k2,k3,k4,k5⟩:=hv;rw[hoo]at k4;cases k4;obtain⟨gh',cs,j1,j2,rfl,j4,j5⟩:=hob;rw[k1]at j1;have e1:=au j1;subst e1;obtain⟨jn,rfl,hj⟩:=qy k5;have hjl:jn<l.length:=(List.getElem?_eq_some_iff.1 hj).1;have hy:l[jn]=y:=(List.getElem?_eq_some_iff.1 hj).2;obtain⟨b',p',ecs,hg,had,hel⟩:=j4.elem (bZ K c).pos hjl;rw[aK,had]at k2;cases k2;have hx:a.eval x=.pointer (some ⟨b,p+off,none⟩):=by simpa using k3
      have hrel:=hel.rel;rw[hy]at hrel;have hS:=St.refl hO;rw[hg]at hS;have hheap:m.w.heap[b]?=some (.cells cs e' (0,0)):=by
       have:=hO.ok (.arr gh.g cs e') (by simp);exact this b hg
      exact Dt (K:=K) (g:=g) hT ho hti hx (fun i u hu=>by
       rw[cell_of_row _ _ _ _ _ _ hheap];exact hel.get i u hu) (wL hrel)
     rcases zS h with⟨hA,l,hl,h⟩|⟨hA,w,hl,h⟩
     . exact ja hox hq h fun g a m e h1 h2 h3 h4=>(key g a m e h1 h2 h3 h4).1 l hA hl
     . exact ja hox hq h fun g a m e h1 h2 h3 h4=>(key g a m e h1 h2 h3 h4).2 w hA hl
   . cases h
 . rename_i q off n j;obtain⟨⟨ver,ao⟩,hq,h'⟩:=aa.1 h;clear h;have h:=h';clear h';split at h
   . rename_i T cs hao hA;simp only at hao;subst hao;obtain⟨ds,hds,h'⟩:=aa.1 h;clear h;have h:=h';clear h';have hag:=(hT.ty t ti hti).agg;rw[hA]at hag;have key:∀(g:GG S) (a:Act) (m:Mem) (e:bM) (w:CV S) (ws:List (CV S)) (u:Value),ds=w::ws->(∀cs0:List Value,bH K g m w cs0->cs0[j.toNat]?=some u)->bH K g m (.NJ q off n j) [a.eval x]->gw K g m q (.box T cs) e->Ow m [e]->(execOp a.eval o).run P m.w=.ok (.value u) m.w:=fun g a m e w ws u hdw hwu hv hob hO=>by
      simp only[bH]at hv;obtain⟨gh,b,k1,k2,k3,k4⟩:=hv;obtain⟨gh',b',us,j1,j2,rfl,j4⟩:=hob;rw[k1]at j1;have e1:=au j1;subst e1;rw[k2]at j2;have e2:=au j2;subst e2;have hx:a.eval x=.pointer (some ⟨b,off+j.toNat,none⟩):=by simpa using k3
      obtain⟨q1,q2⟩:=nB hds j4;rw[hdw]at q1;obtain⟨c1,c2,he,q3,_⟩:=q1;have hu:=hwu c1 q3;have hcell:m.w.cell? ⟨b,off+j.toNat,none⟩=some u:=by
       rw[yU (St.refl hO) 0 rfl];have:(us.drop off)[j.toNat]?=some u:=by
        rw[he,List.getElem?_append_left (List.getElem?_eq_some_iff.1 hu).1];exact hu
       rw[List.getElem?_drop]at this;simpa using this
      have hrun:=rQ (P:=P) (w:=m.w) (b:=b) (o:=off+j.toNat) (t:=t) hag hcell;simp[execOp,ho,hx,Instr.loadAt,Instr.sureAddr,hrun]
     have hb:∀(g:GG S) (a:Act) (m:Mem),bH K g m (.NJ q off n j) [a.eval x]->0<=j/\j<(n:Int):=fun g a m hv=>by
      simp only[bH]at hv;obtain⟨gh,b,k1,k2,k3,k4⟩:=hv;exact k4
     split at h
     . rename_i n' f ws;split at h
       . rename_i hn;have hn:=ah hn;subst hn;exact ja hox hq h fun g a m e h1 h2 h3 h4=>⟨_,key g a m e _ ws _ rfl (fun cs0 hc=>by simp only[bH]at hc;rw[hc];exact LA (hb g a m h1)) h1 h3 h4,by simp only[bI,bH]⟩
       . cases h
     . rename_i n' kk f ws;split at h
       . rename_i hn;have hn:=ah hn;subst hn;exact ja hox hq h fun g a m e h1 h2 h3 h4=>⟨_,key g a m e _ ws _ rfl (fun cs0 hc=>by simp only[bH]at hc;rw[hc];exact Hc (hb g a m h1)) h1 h3 h4,by simp only[bI,bH]⟩
       . cases h
     . cases h
   . cases h
 . cases h
theorem DR{o n:Nat}{xs vs ws:List (CV S)}{cs ds:List Value}(h:Pb o n xs vs=some ws)(hx:cb K g m xs ds)(hv:cb K g m vs cs):ds.length=n/\o+n<=cs.length/\cb K g m ws (cs.take o++ds++cs.drop (o+n)):=by
 unfold Pb at h;split at h
 . rename_i hn;have hn:=ah hn;have hl:=Js hx;rw[hn]at hl;split at h
   . rename_i x h1 _;have h1:=ah h1;have hl1:=hl.trans h1;obtain⟨u,rfl⟩:=List.length_eq_one_iff.1 hl1;obtain⟨k1,k2⟩:=Kd h (j8 hx) hv;rw[h1];refine⟨rfl,k2,?_⟩;rw[<- sG _ _ _ k2];exact k1
   . obtain⟨k1,k2⟩:=SH h hx hl hv;exact⟨hl,k2,k1⟩
 . cases h
theorem DS:∀{o:Nat} {x:CV S} {vs ws vs1:List (CV S)} {v0:CV S} {cs:List Value} {i:Nat} {u:Value},tq o x vs=some ws->cutAt o vs=some (v0::vs1)->cb K g m vs cs->i<v0.n->(∀c1,bH K g m v0 c1->bH K g m x (c1.set i u))->cb K g m ws (cs.set (o+i) u)/\o+i<cs.length
 |0,x,[],_,_,_,_,_,_,h,_,_,_,_=>by simp[tq]at h
 |0,x,v::vs,ws,vs1,v0,cs,i,u,h,hc,hv,hi,hx=>by
  simp only[tq,af]at h;subst h;simp only[cutAt,af,bg]at hc;obtain⟨rfl,rfl⟩:=hc;obtain⟨c1,c2,rfl,h1,h2⟩:=hv;have:=h1.len;refine⟨⟨c1.set i u,c2,?_,hx c1 h1,h2⟩,by rw[ay];omega⟩;rw[aJ,List.set_append_left _ _ (by omega)]
 |o+1,x,[],_,_,_,_,_,_,h,_,_,_,_=>by simp[tq]at h
 |o+1,x,v::vs,ws,vs1,v0,cs,i,u,h,hc,hv,hi,hx=>by
  unfold tq at h;unfold cutAt at hc;obtain⟨c1,c2,rfl,h1,h2⟩:=hv;have hl:=h1.len;split at h
  . rename_i hle;rw[hle]at hc;have hle:=aj hle;obtain⟨ws',hw,rfl⟩:=ab.1 h;obtain⟨k1,k2⟩:=DS hw hc h2 hi hx;refine⟨⟨c1,c2.set (o+1-v.n+i) u,?_,h1,k1⟩,by rw[ay];omega⟩;rw[List.set_append_right _ _ (by omega),hl,show o+1+i-v.n=o+1-v.n+i by omega]
  . cases h
termination_by _ _ vs=>vs.length
theorem LB{f:Nat->UInt8}{n:Nat}{i:Int}{y:UInt8}(h:0<=i/\i<(n:Int)):((List.range n).map (fun j=>Value.int .u8 ((f j).toNat:Int))).set i.toNat (.int .u8 (y.toNat:Int))=(List.range n).map (fun j=>Value.int .u8 ((qR f i y j).toNat:Int)):=by
 obtain⟨q,rfl⟩:∃q:Nat,i=(q:Int):=⟨i.toNat,by omega⟩;rw[pC n f q y (fun c:UInt8=>Value.int .u8 (c.toNat:Int)) (by omega)];simp
theorem Hd{f:Nat->Int}{kk:IntKind}{n:Nat}{i:Int}{y:Int}(h:0<=i/\i<(n:Int)):((List.range n).map (fun j=>Value.int kk (f j))).set i.toNat (.int kk y)=(List.range n).map (fun j=>Value.int kk (qR f i y j)):=by
 obtain⟨q,rfl⟩:∃q:Nat,i=(q:Int):=⟨i.toNat,by omega⟩;rw[pC n f q y (fun c:Int=>Value.int kk c) (by omega)];simp
theorem B1{q b off:Nat}{us:List Value}{T:TypeId}{t:TypeId}{x y:Operand}{cs':List (CV S)}{gh:Gh}{a:Act}(ho:o.op=.store t x y)(h1:g.bk q=some gh)(h2:gh.g=some b)(hO:Ow m [bM.box b us.toArray T])(hx:a.eval x=.pointer (some ⟨b,off,none⟩))
 (hag:(eA P t).map (·.2)=some (a.eval y).cells.size) (hfit:off+(a.eval y).cells.size<=us.length) (hone:∀u∈(a.eval y).cells.toList,u.oneCell'=true)
 (hc:cb K g m cs' (us.take off++(a.eval y).cells.toList++us.drop (off+(a.eval y).cells.size))):
 bC P o a m.w fun v w'=>wV K g m ct [] [bM.box b us.toArray T] {v:=AV.fg S,rm:=[q],add:=[(q,.box T cs')]} v w':=by
 refine Kr (v:=a.eval y) (cw a [x,y]) 0 (St.refl hO) ho (by rw[bJ a [x,y] (by simp),hx]) (bJ a [x,y] (by simp)) rfl hag (by simpa using hfit) (aE.2 hone) fun m' hle hS=>?_
 have hput:putAt us.toArray off (a.eval y).cells.toList=(us.take off++(a.eval y).cells.toList++us.drop (off+(a.eval y).cells.size)).toArray:=by
  unfold putAt;simp
 rw[hput]at hS
 refine⟨m',g,[bM.box b _ T],rfl,by simpa using hS,GE.refl g,rfl,rfl,fun i h=>absurd rfl h,⟨_,[],rfl,⟨gh,b,_,h1,h2,rfl,hc.mono (GE.refl g) hle⟩,rfl⟩,by simp[AV.fg,bI,cF,undef]⟩
theorem Af(hT:c9 P K tt){t:TypeId}{x y:Operand}(ho:o.op=.store t x y){p:CV S}{av:AV S}(h:wH tb tt t p av ob k=some r):dp P K o [.one p,av] ob ct k r:=by
 have hox:o.op.operands.toList=[x,y]:=by rw[ho];rfl
 unfold wH at h;obtain⟨ti,hti,h'⟩:=aa.1 h;clear h;have h:=h';clear h';obtain⟨xs,hxs,h'⟩:=aa.1 h;clear h;have h:=h';clear h';have hag:=(hT.ty t ti hti).agg;split at h
 . rename_i q off;obtain⟨⟨ver,ao⟩,hq,h'⟩:=aa.1 h;clear h;have h:=h';clear h';split at h
   . rename_i T cs hao;simp only at hao;subst hao;obtain⟨cs',hcs',h'⟩:=aa.1 h;clear h;have h:=h';clear h';refine⟨_,h,by simp,fun g a m Lr Lm hf _ ha hr hm hO=>?_⟩;simp only[pick,dS]at hr;subst hr;obtain⟨e,rfl,hoo,gh',b',us,j1,j2,rfl,j4⟩:=cS hm hq;rw[hox]at ha;obtain⟨hv,hw⟩:=dx ha;simp only[bI,bH]at hv;obtain⟨gh,b,k1,k2,k3⟩:=hv;rw[k1]at j1;have e1:=au j1;subst e1;rw[k2]at j2;have e2:=au j2;subst e2;have hx:a.eval x=.pointer (some ⟨b,off,none⟩):=by simpa using k3
     have hcl:=ny hxs hw;obtain⟨q1,q2,q3⟩:=DR hcs' hcl j4;have q1':(a.eval y).cells.size=ti.size:=by simpa using q1
     exact B1 ho k1 k2 (by simpa using hO) hx (by rw[hag,q1'];rfl) (by rw[q1'];exact q2) (uh hcl) (by rw[q1'];exact q3)
   . cases h
 . rename_i q ver0 c z j off;obtain⟨⟨ver,ao⟩,hq,h'⟩:=aa.1 h;clear h;have h:=h';clear h';split at h
   . rename_i hver;have hver:=ah hver;simp only at hver;subst hver;split at h
     . rename_i e c' full l hao;simp only at hao;subst hao;obtain⟨cs',hcs',h'⟩:=aa.1 h;clear h;have h:=h';clear h';obtain⟨u',hu',h'⟩:=aa.1 h;clear h;have h:=h';clear h';refine⟨_,h,by simp,fun g a m Lr Lm hf _ ha hr hm hO=>?_⟩;simp only[pick,dS]at hr;subst hr;obtain⟨en,rfl,hoo,gh',cs,j1,j2,rfl,j4,j5⟩:=cS hm hq;rw[hox]at ha;obtain⟨hv,hw⟩:=dx ha;simp only[bI,bH]at hv;obtain⟨gh,b,p,e',f,l',en',k1,k2,k3,k4,k5⟩:=hv;rw[k1]at j1;have e1:=au j1;subst e1;rw[hoo]at k4;have e2:=au k4;simp only[aA]at e2;obtain⟨e2,_⟩:=e2;cases e2;obtain⟨jn,rfl,hj⟩:=qy k5;have hjl:jn<l'.length:=(List.getElem?_eq_some_iff.1 hj).1;have hy:l'[jn]=z:=(List.getElem?_eq_some_iff.1 hj).2;obtain⟨b',p',ecs,hg,had,hel⟩:=j4.elem (bZ K c).pos hjl;rw[aK,had]at k2;cases k2;have hx:a.eval x=.pointer (some ⟨b,p+off,none⟩):=by simpa using k3
       have hrel:=hel.rel;rw[hy]at hrel;have hcl:=ny hxs hw;obtain⟨q1,q2,q3⟩:=DR hcs' hcl (wL (g:=g) hrel);have q1':(a.eval y).cells.size=ti.size:=by simpa using q1
       have hr':∀m',Le m m'->RK K c m' u' (ecs.take off++(a.eval y).cells.toList++ecs.drop (off+(a.eval y).cells.size)):=fun m' hle=>by
        rw[q1'];exact qI hu' (q3.mono (GE.refl g) hle)
       have hO':Ow m [bM.arr gh.g cs e]:=by simpa using hO
       cases full with
       |false=>
        refine PJ (bZ K c) hg hel (cw a [x,y]) 0 (St.refl hO') ho (by rw[bJ a [x,y] (by simp),hx]) (bJ a [x,y] (by simp)) rfl (by rw[hag,q1'];rfl) (aE.2 (uh hcl)) (by rw[q1',<- hel.len];simpa using q2) u' hr' fun m' cs2 hle hS hA=>?_
        refine⟨m',g,[bM.arr gh.g cs2 e],rfl,by simpa using hS,GE.refl g,rfl,rfl,fun i h=>absurd rfl h,⟨_,[],rfl,⟨gh,cs2,k1,by rw[List.length_set];exact j2,rfl,by rw[aK];exact hA,fun h=>by cases h⟩,rfl⟩,by simp[AV.fg,bI,cF,undef]⟩
       |true=>
        obtain⟨hfa,hF⟩:=j5 rfl
        rw[hfa]at hel
        refine MB hF (bZ K c) hg hel (cw a [x,y]) 0 (St.refl hO') ho (by rw[bJ a [x,y] (by simp),hx]) (bJ a [x,y] (by simp)) rfl (by rw[hag,q1'];rfl) (aE.2 (uh hcl)) (by rw[q1',<- hel.len];simpa using q2) u' hr' fun m' cs2 hle hS hA=>?_
        refine⟨m',g,[bM.arr gh.g cs2 e],rfl,by simpa using hS,GE.refl g,rfl,rfl,fun i h=>absurd rfl h,⟨_,[],rfl,⟨gh,cs2,k1,by rw[List.length_set];exact j2,rfl,by rw[aK,hfa];exact hA.1,fun _=>⟨hfa,by rw[aK];exact hA⟩⟩,rfl⟩,by simp[AV.fg,bI,cF,undef]⟩
     . cases h
   . cases h
 . rename_i q off n j;obtain⟨⟨ver,ao⟩,hq,h'⟩:=aa.1 h;clear h;have h:=h';clear h';split at h
   . rename_i T cs hao hsz;simp only at hao;subst hao;have hsz:=ah hsz;obtain⟨cs1,hcs1,h'⟩:=aa.1 h;clear h;have h:=h';clear h';obtain⟨cs',hcs',h'⟩:=aa.1 h;clear h;have h:=h';clear h';refine⟨_,h,by simp,fun g a m Lr Lm hf _ ha hr hm hO=>?_⟩;simp only[pick,dS]at hr;subst hr;obtain⟨e,rfl,hoo,gh',b',us,j1,j2,rfl,j4⟩:=cS hm hq;rw[hox]at ha;obtain⟨hv,hw⟩:=dx ha;simp only[bI,bH]at hv;obtain⟨gh,b,k1,k2,k3,k4⟩:=hv;rw[k1]at j1;have e1:=au j1;subst e1;rw[k2]at j2;have e2:=au j2;subst e2;have hx:a.eval x=.pointer (some ⟨b,off+j.toNat,none⟩):=by simpa using k3
     have hcl:=ny hxs hw;have fin:∀u,(a.eval y).cells.toList=[u]->cb K g m cs' (us.set (off+j.toNat) u)->off+j.toNat<us.length->bC P o a m.w fun v w'=>wV K g m ct [] [bM.box b us.toArray T] {v:=AV.fg S,rm:=[q],add:=[(q,.box T cs')]} v w':=fun u hu hc hlt=>by
      have h1:(a.eval y).cells.size=1:=by have:=congrArg List.length hu;simpa using this
      exact B1 ho k1 k2 (by simpa using hO) hx (by rw[hag,h1,hsz];rfl) (by rw[h1];exact hlt) (uh hcl) (by rw[h1,hu,<- sG _ _ _ hlt];exact hc)
     split at hcs'
     . rename_i n' f ws z;split at hcs'
       . rename_i hn;have hn:=ah hn;subst hn;have hu:=j8 hcl;simp only[bH]at hu;obtain⟨q1,q2⟩:=DS (g:=g) (m:=m) (K:=K) (i:=j.toNat) (u:=.int .u8 (z.toNat:Int)) hcs' hcs1 j4 (by simp only[CV.n];omega) (fun c1 hc=>by simp only[bH]at hc ⊢; rw[hc];exact LB k4);exact fin _ hu q1 q2
       . cases hcs'
     . rename_i n' kk f ws k' z;split at hcs'
       . rename_i hk hn _;have hn:=ah hn;subst hn;subst hk;have hu:=j8 hcl;simp only[bH]at hu;obtain⟨q1,q2⟩:=DS (g:=g) (m:=m) (K:=K) (i:=j.toNat) (u:=.int _ z) hcs' hcs1 j4 (by simp only[CV.n];omega) (fun c1 hc=>by simp only[bH]at hc ⊢; rw[hc];exact Hd k4);exact fin _ hu q1 q2
       . cases hcs'
     . cases hcs'
   . cases h
 . cases h
end E
end
section
open Go.RowKit G
namespace E
variable {S:Nat->Type}{tb:Tb S}{K:dN tb}{P:Program}{o:Oper}{xs:List (AV S)}{ob:List (Nat×Nat×AO S)}{ct:Nat}{γ:Type}{k:fD S->Option γ}{r:γ}{tt:TypeId->Option (TI S)}{g:GG S}{m:Mem}{fa:FA S}
theorem iE(hT:c9 P K tt){t:TypeId}{ec:TypeId×Co}(h:ft tt t=some ec):P.underlying t=some (.slice ec.1)/\∃ei,tt ec.1=some ei/\cV P t ec.1 (zeroOf ei) (zK K ec.2) ei.bytes/\0<ei.bytes:=by
 unfold ft at h;obtain⟨i,hi,h⟩:=aa.1 h;split at h
 . rename_i e c hd hc;cases h;have htd:=(hT.ty t i hi).td;rw[hd]at htd;obtain⟨ei,h1,h2,h3⟩:=hT.el t i e c hi hd hc;have hety:=hT.ty e ei h1;refine⟨htd,ei,h1,⟨htd,by rw[<- h2];exact hety.info,?_,(bZ K c).pos⟩,h3⟩;rw[<- Array.length_toList,jV hety,hety.len,h2]
 . cases h
theorem lP{v:AV S}{i:Int}{u:Value}(h:idxOf v=some i)(hv:bI K g m v u):∃kk,u=.int kk i:=by
 unfold idxOf at h;split at h
 . rename_i w;obtain⟨⟨kk,x⟩,h1,h2⟩:=ab.1 h;simp only at h2;subst h2;simp only[bI]at hv;exact⟨kk,(pg h1 hv).1⟩
 . cases h
theorem jL{t:TypeId}{x:Operand}{v:CV S}{av:AV S}(hox:o.op.operands.toList=[x])(h:k {v:=av}=some r)(hrun:∀(g:GG S) (a:Act) (m:Mem),bH K g m v [a.eval x]->bC P o a m.w fun u w'=>w'=m.w/\bI K g m av u):dp P K o [.one v] ob ct k r:=
 ⟨_,h,sf.pure rfl rfl rfl fun g a m ha=>by rw[hox]at ha;have:=dk ha;simp only[bI]at this;exact hrun g a m this⟩
theorem jM{x y:Operand}{v:CV S}{w av:AV S}(hox:o.op.operands.toList=[x,y])(h:k {v:=av}=some r)(hrun:∀(g:GG S) (a:Act) (m:Mem),bH K g m v [a.eval x]->bI K g m w (a.eval y)->bC P o a m.w fun u w'=>w'=m.w/\bI K g m av u):dp P K o [.one v,w] ob ct k r:=
 ⟨_,h,sf.pure rfl rfl rfl fun g a m ha=>by rw[hox]at ha;obtain⟨h1,h2⟩:=dx ha;simp only[bI]at h1;exact hrun g a m h1 h2⟩
theorem pn(hT:c9 P K tt){t:TypeId}{x y:Operand}(ho:o.op=.indexAddr t x y){v:CV S}{iv:AV S}{i:Int}(hi:idxOf iv=some i)(h:vQ tt t y v i ob k=some r):dp P K o [.one v,iv] ob ct k r:=by
 have hox:o.op.operands.toList=[x,y]:=by rw[ho];rfl
 unfold vQ at h;split at h
 . rename_i q off;obtain⟨ti,hti,h'⟩:=aa.1 h;clear h;have h:=h';clear h';have htd:=(hT.ty t ti hti).td;split at h
   . rename_i n e hd;rw[hd]at htd;obtain⟨ei,hei,h'⟩:=aa.1 h;clear h;have h:=h';clear h';split at h
     . rename_i hsz;have hsz:=ah hsz;have hes:(P.info? e).map (·.size)=some 1:=by
        obtain⟨inf,h1,_,h3,_⟩:=info_parts (hT.ty e ei hei).info;simp[h1,h3,hsz]
       split at h
       . rename_i kk j;split at h
         . rename_i hj;simp only[al,aR]at hj;refine jM hox h fun g a m hv hw=>?_
           simp only[bH]at hv;obtain⟨gh,b,k1,k2,k3⟩:=hv;have hx:a.eval x=.pointer (some ⟨b,off,none⟩):=by simpa using k3
           refine Gl (i:=j) (k:=kk) htd hes hj (cw a [x]) ho (by rw[bJ a [x] (by simp),hx]) rfl ⟨rfl,?_⟩;simp only[val,bI,bH];exact⟨gh,b,k1,k2,by rw[Nat.add_comm]⟩
         . cases h
       . obtain⟨u,hu,h'⟩:=aa.1 h;clear h;have h:=h';clear h';have hj:=eO hu;refine jM hox h fun g a m hv hw=>?_
         simp only[bH]at hv;obtain⟨gh,b,k1,k2,k3⟩:=hv;have hx:a.eval x=.pointer (some ⟨b,off,none⟩):=by simpa using k3
         obtain⟨kk,hy⟩:=lP hi hw;refine Gl (i:=i) (k:=kk) htd hes hj (cw a [x,y]) ho (by rw[bJ a [x,y] (by simp),hx]) (by rw[bJ a [x,y] (by simp),hy]) ⟨rfl,?_⟩;simp only[val,bI,bH];exact⟨gh,b,k1,k2,by rw[Nat.add_comm],hj⟩
     . cases h
   . cases h
 . obtain⟨ec,hec,h'⟩:=aa.1 h;clear h;have h:=h';clear h';obtain⟨hu,ei,hei,hE,hb⟩:=iE hT hec;split at h
   . rename_i q _;obtain⟨⟨ver,ao⟩,hq,h'⟩:=aa.1 h;clear h;have h:=h';clear h';split at h
     . rename_i e' c' f l hao;simp only at hao;subst hao;split at h
       . rename_i hc _;subst hc;obtain⟨z,hz,h'⟩:=aa.1 h;clear h;have h:=h';clear h';refine⟨_,h,by simp,fun g a m Lr Lm hf _ ha hr hm hO=>?_⟩;simp only[pick,dS]at hm;subst hm;obtain⟨en,rfl,hoo,gh,cs,j1,j2,rfl,j4,j5⟩:=cS hr hq;rw[hox]at ha;obtain⟨hv,hw⟩:=dx ha;simp only[bI,bH]at hv;obtain⟨gh',k1,k2⟩:=hv;rw[j1]at k1;have e1:=au k1;subst e1;have hx:a.eval x=.slice gh.ad gh.n gh.cap:=by simpa using k2
         obtain⟨kk,hy⟩:=lP hi hw;obtain⟨jn,rfl,hj⟩:=qy hz;have hjl:jn<l.length:=(List.getElem?_eq_some_iff.1 hj).1;obtain⟨b,p,ecs,hg,hadr,hel⟩:=j4.elem (bZ K ec.2).pos hjl;have hbd:(0:Int)<=(jn:Int)/\(jn:Int)<(gh.n:Int):=⟨by omega,by omega⟩;refine bC.val (v:=.pointer (some ⟨b,p,none⟩)) ?_ (wV.pure rfl (by simpa using hO) ?_)
         . cases had:gh.ad with
           |none=>rw[had]at hadr;simp at hadr
           |some A=>
            rw[had]at hadr
            simp only[ak,af]at hadr
            simp only[execOp,ho,hx,hy,had,Instr.indexAt,asIntOf,Sem.run_bind,Sem.run_pure,Result.andThen_ok,run_underlying hu,jh hE,hbd,and_self,if_true,aK,hadr]
         . simp only[bI,bH];exact⟨gh,b,p,e',f,l,_,j1,by rw[aK];exact hadr,by rw[Nat.add_zero],hoo,hz⟩
       . cases h
     . cases h
   . obtain⟨l,hl,h'⟩:=aa.1 h;clear h;have h:=h';clear h';obtain⟨z,hz,h'⟩:=aa.1 h;clear h;have h:=h';clear h';refine jM hox h fun g a m hv hw=>?_
     obtain⟨ad,n,hx,hEl⟩:=jU hl hv;obtain⟨kk,hy⟩:=lP hi hw;refine Xx hE hEl hz (cw a [x,y]) ho (by rw[bJ a [x,y] (by simp),hx]) (by rw[bJ a [x,y] (by simp),hy]) fun b p cs hR hA=>⟨rfl,?_⟩
     simp only[val,bI,bH];exact⟨b,p,cs,by rw[Nat.add_zero],hR,hA⟩
theorem iI{x:Option Operand}{vs vs':List (AV S)}{i:Option Int}{xs:List Operand}{a:Act}(h:py x vs=some (i,vs'))(ha:mb K g m a (x.toList++xs) vs):mb K g m a xs vs'/\(∀j,i=some j->∃y kk,x=some y/\a.eval y=.int kk j)/\(i=none->x=none):=by
 cases x with
 |none=>
  simp only[py,af,aA]at h
  obtain⟨rfl,rfl⟩:=h
  exact⟨by simpa using ha,fun j h=>(by cases h),fun _=>rfl⟩
 |some y=>
  cases vs with
  |nil=>simp[py]at h
  |cons v vs=>
   simp only[py]at h
   obtain⟨j,hj,h⟩:=ab.1 h
   simp only[aA]at h
   obtain⟨rfl,rfl⟩:=h
   simp only[Option.toList_some,List.singleton_append]at ha
   obtain⟨w,r,e,h1,h2⟩:=ha
   cases e
   obtain⟨kk,hy⟩:=lP hj h1
   exact⟨h2,fun j' hj'=>by cases hj';exact⟨y,kk,rfl,hy⟩,fun h=>by cases h⟩
theorem DW{zv:Value}{bytes:Nat}{t e:TypeId}{x y z:Operand}{α:Type}{R:Mem->α->List Value->Prop}{sz cap:Nat}{ad:Option Addr}{l l':List α}{k k':IntKind}{i:Int}{Kt':Kt}{a:Act}{bP:Value->World->Prop}(hT:cV P t e zv sz bytes)(hE:dc R m sz ad cap l)(hx:pK l i=some l')(hK:Ke a Kt')(ho:o.op=.slice t x none (some y) (some z))(hxx:fu Kt' x=some (.slice ad l.length cap))(hy:fu Kt' y=some (.int k i))(hz:fu Kt' z=some (.int k' i))
 (hp:∀a',dc R m sz a' l'.length l'->bP (.slice a' l'.length l'.length) m.w):bC P o a m.w bP:=by
 obtain⟨j,rfl,hj,rfl⟩:=tA hx
 have hlc:=hE.pN
 have hb1:((0:Int)<=(j:Int)/\(j:Int)<=(cap:Int)):=⟨by omega,by omega⟩
 have hcut:=hE.Rj 0 j j (Nat.zero_le _) hj (Nat.le_refl _) (by omega)
 have hjl:(l.take j).length=j:=by rw[aH];omega
 rw[fp,List.drop_zero,Nat.sub_zero]at hcut
 unfold bC execOp
 have hbj:(Instr.sliceBound (.int k' (j:Int)) cap BoundsCode.slice3Acap).run P m.w=.ok j m.w:=df (by omega)
 have hbj2:(Instr.sliceBound (.int k (j:Int)) j BoundsCode.slice3B).run P m.w=.ok j m.w:=df (Nat.le_refl _)
 have hadd:(if j=0 then ad else ad.map (·.add (0*sz)))=ad:=by
  have:=fp ad j sz;unfold cX at this;exact this
 simp only[ho,hK.ev hxx,hK.ev hy,hK.ev hz,Instr.sliceAt,Instr.slice,Instr.sliceBounds,Sem.run_bind,Sem.run_pure,Result.andThen_ok,run_underlying hT.fg,jh hT,ak,Option.map_none,hbj,hbj2,if_true,Option.isSome_some,Nat.sub_zero,hadd]
 have:=hp ad (by rw[hjl];exact hcut)
 rw[hjl]at this
 exact this
theorem LG{b:Option Nat}{c i j s:Nat}(hj:i+j<c):cX (cX (eG b) c i s) (c-i) j s=cX (eG b) c (i+j) s:=by
 unfold cX;by_cases h1:c=i
 . omega
 . by_cases h2:c-i=j
   . omega
   . rw[if_neg h1,if_neg h2,if_neg (by omega)]
     cases b with
     |none=>rfl
     |some b=>simp only[eG,ak,Addr.add_mid,aJ,aM]
theorem ok_slice(hT:c9 P K tt){t:TypeId}{x:Operand}{lo hi mx:Option Operand}(ho:o.op=.slice t x lo hi mx){v:CV S}{vs va vb vc:List (AV S)}{ilo ihi imx:Option Int}(h1:py lo vs=some (ilo,va))(h2:py hi va=some (ihi,vb))(h3:py mx vb=some (imx,vc))
 (h:tB tt t v ilo ihi imx ob ct k=some r):dp P K o (.one v::vs) ob ct k r:=by
 have hox:o.op.operands.toList=x::(lo.toList++(hi.toList++(mx.toList++[]))):=by rw[ho];simp[Op.operands]
 have opn:∀{g:GG S} {m:Mem} {a:Act},mb K g m a o.op.operands.toList (.one v::vs)->bH K g m v [a.eval x]/\((∀j,ilo=some j->∃y kk,lo=some y/\a.eval y=.int kk j)/\(ilo=none->lo=none))/\((∀j,ihi=some j->∃y kk,hi=some y/\a.eval y=.int kk j)/\(ihi=none->hi=none))/\((∀j,imx=some j->∃y kk,mx=some y/\a.eval y=.int kk j)/\(imx=none->mx=none)):=fun{g m a} ha=>by
  rw[hox]at ha;obtain⟨w,r,e,k1,k2⟩:=ha;cases e;simp only[bI]at k1;obtain⟨k3,k4⟩:=iI h1 k2;obtain⟨k5,k6⟩:=iI h2 k3;obtain⟨k7,k8⟩:=iI h3 k5;exact⟨k1,k4,k6,k8⟩
 unfold tB at h
 obtain⟨ec,hec,h'⟩:=aa.1 h
 clear h;have h:=h';clear h'
 obtain⟨hu,ei,hei,hE,hb⟩:=iE hT hec
 split at h
 . rename_i q
   obtain⟨⟨ver,ao⟩,hq,h'⟩:=aa.1 h
   clear h;have h:=h';clear h'
   split at h
   . rename_i e' c' f l i hao
     simp only at hao;subst hao
     split at h
     . rename_i hc _
       subst hc
       obtain⟨l',hl',h'⟩:=aa.1 h
       clear h;have h:=h';clear h'
       refine⟨_,h,by simp,fun g a m Lr Lm hf _ ha hr hm hO=>?_⟩
       simp only[pick,dS]at hr
       subst hr
       obtain⟨en,rfl,hoo,gh,cs,j1,j2,rfl,j4,j5⟩:=cS hm hq
       obtain⟨hv,⟨hlo,_⟩,⟨_,hhi⟩,⟨_,hmx⟩⟩:=opn ha
       obtain⟨y,kk,rfl,hy⟩:=hlo _ rfl
       obtain rfl:=hhi rfl
       obtain rfl:=hmx rfl
       simp only[bH]at hv
       obtain⟨gh',k1,k2⟩:=hv
       rw[j1]at k1;have e1:=au k1;subst e1
       have hx:a.eval x=.slice gh.ad l.length gh.cap:=by rw[j2];simpa using k2
       have hO':Ow m [bM.arr gh.g cs e']:=by simpa using hO
       refine Ir hE j4 hl' (cw a [x,y]) ho (by rw[bJ a [x,y] (by simp),hx]) (by rw[bJ a [x,y] (by simp),hy]) fun a' c2 hA=>?_
       have hge:=GG.eV (x:=⟨gh.g,a',c2,l'.length,default⟩) (hf (ct+1) (by omega) (by omega)).1
       refine⟨m,g.gI (ct+1) ⟨gh.g,a',c2,l'.length,default⟩,[bM.arr gh.g cs e'],rfl,by simpa using St.refl hO',hge,rfl,rfl,GG.dQ,⟨_,[],rfl,⟨_,cs,GG.cj,rfl,rfl,hA,fun h=>by cases h⟩,rfl⟩,?_⟩
       simp only[bI,bH]
       exact⟨_,GG.cj,rfl⟩
     . cases h
   . rename_i e' c' full l j hao
     simp only at hao;subst hao
     split at h
     . rename_i hc _
       subst hc
       obtain⟨l',hl',h'⟩:=aa.1 h
       clear h;have h:=h';clear h'
       refine⟨_,h,by simp,fun g a m Lr Lm hf _ ha hr hm hO=>?_⟩
       simp only[pick,dS]at hr
       subst hr
       obtain⟨en,rfl,hoo,gh,cs,j1,j2,rfl,j4,j5⟩:=cS hm hq
       obtain⟨hv,⟨_,hlo⟩,⟨hhi,_⟩,⟨_,hmx⟩⟩:=opn ha
       obtain⟨y,kk,rfl,hy⟩:=hhi _ rfl
       obtain rfl:=hlo rfl
       obtain rfl:=hmx rfl
       simp only[bH]at hv
       obtain⟨gh',k1,k2⟩:=hv
       rw[j1]at k1;have e1:=au k1;subst e1
       have hx:a.eval x=.slice gh.ad l.length gh.cap:=by rw[j2];simpa using k2
       have hO':Ow m [bM.arr gh.g cs e']:=by simpa using hO
       refine PH hE j4 hl' (cw a [x,y]) ho (by rw[bJ a [x,y] (by simp),hx]) (by rw[bJ a [x,y] (by simp),hy]) fun hA=>?_
       have hge:=GG.eV (x:=⟨gh.g,gh.ad,gh.cap,l'.length,default⟩) (hf (ct+1) (by omega) (by omega)).1
       refine⟨m,g.gI (ct+1) ⟨gh.g,gh.ad,gh.cap,l'.length,default⟩,[bM.arr gh.g cs e'],rfl,by simpa using St.refl hO',hge,rfl,rfl,GG.dQ,⟨_,[],rfl,⟨_,cs,GG.cj,rfl,rfl,hA,fun h=>⟨(j5 h).1,by rw[<- (j5 h).1];exact hA,(j5 h).2.2⟩⟩,rfl⟩,?_⟩
       simp only[bI,bH]
       exact⟨_,GG.cj,rfl⟩
     . cases h
   . cases h
 . rename_i q c n
   split at h
   . rename_i j
     split at h
     . rename_i hj
       have hj:=aZ hj
       subst hj
       refine⟨_,h,by simp,fun g a m Lr Lm hf _ ha hr hm hO=>?_⟩
       simp only[pick,dS]at hm
       subst hm
       obtain⟨hv,⟨_,hlo⟩,⟨hhi,_⟩,⟨_,hmx⟩⟩:=opn ha
       obtain⟨y,kk,rfl,hy⟩:=hhi _ rfl
       obtain rfl:=hlo rfl
       obtain rfl:=hmx rfl
       simp only[bH]at hv
       obtain⟨gh,b,k1,k2,k3,k4,k5⟩:=hv
       have hx:a.eval x=.slice (eG gh.g) n.toNat gh.cap:=by simpa using k3
       refine xq hE (cw a [x,y]) ho (by rw[bJ a [x,y] (by simp),hx]) (by rw[bJ a [x,y] (by simp),hy]) ?_
       refine⟨m,g,[],rfl,by simpa using St.refl hO,GE.refl g,rfl,rfl,fun i h=>absurd rfl h,rfl,?_⟩
       simp only[bI,bH]
       exact⟨gh,[],eG gh.g,k1,rfl,by rw[k2];exact dc.NL m k5,by rw[k2];exact dc.NL m k5,k4,fun _=>(fp _ _ _).symm⟩
     . cases h
   . cases h
 . split at h
   . rename_i hn
     simp only[al]at hn
     split at h
     . rename_i hj
       have hj:=aZ hj
       subst hj
       cases v<;>first|(cases hn.1;done)|skip
       refine⟨_,h,sf.pure rfl rfl rfl fun g a m ha=>?_⟩
       obtain⟨hv,⟨_,hlo⟩,⟨hhi,_⟩,⟨_,hmx⟩⟩:=opn ha
       obtain⟨y,kk,rfl,hy⟩:=hhi _ rfl
       have e1:ilo=none:=by cases ilo<;>cases imx<;>first|rfl|(cases hn.2;done)
       have e2:imx=none:=by cases ilo<;>cases imx<;>first|rfl|(cases hn.2;done)
       obtain rfl:=hlo e1
       obtain rfl:=hmx e2
       simp only[bH]at hv
       have hx:a.eval x=.slice none 0 0:=by simpa using hv
       refine xq hE (cw a [x,y]) ho (by rw[bJ a [x,y] (by simp),hx]) (by rw[bJ a [x,y] (by simp),hy]) ⟨rfl,?_⟩
       simp only[val,bI,bH]
     . cases h
   . obtain⟨l,hl,h'⟩:=aa.1 h
     clear h;have h:=h';clear h'
     split at h
     . rename_i i
       obtain⟨l',hl',h'⟩:=aa.1 h
       clear h;have h:=h';clear h'
       have gen:k (val (.sl ec.2 l'))=some r->dp P K o (.one v::vs) ob ct k r:=fun h=>by
        refine⟨_,h,sf.pure rfl rfl rfl fun g a m ha=>?_⟩;obtain⟨hv,⟨hlo,_⟩,⟨_,hhi⟩,⟨_,hmx⟩⟩:=opn ha;obtain⟨y,kk,rfl,hy⟩:=hlo _ rfl;obtain rfl:=hhi rfl;obtain rfl:=hmx rfl;obtain⟨ad,n,hx,hEl⟩:=jU hl hv;refine My hE hEl hl' (cw a [x,y]) ho (by rw[bJ a [x,y] (by simp),hx]) (by rw[bJ a [x,y] (by simp),hy]) fun a' c2 hA=>⟨rfl,?_⟩
        simp only[val,bI,bH];exact⟨a',c2,rfl,hA⟩
       unfold Wp at h
       split at h
       . rename_i q d l1 _ _
         split at h
         . rename_i hd _
           subst hd
           have e0:l=l1:=by
            simp only[S7,Mi]at hl;split at hl
            . cases hl;rfl
            . cases hl
           subst e0
           refine⟨_,h,sf.pure rfl rfl rfl fun g a m ha=>?_⟩
           obtain⟨hv,⟨hlo,_⟩,⟨_,hhi⟩,⟨_,hmx⟩⟩:=opn ha
           obtain⟨y,kk,rfl,hy⟩:=hlo _ rfl
           obtain rfl:=hhi rfl
           obtain rfl:=hmx rfl
           simp only[bH]at hv
           obtain⟨gh,l0,ad,k1,k2,hEl,k3,k4,k5⟩:=hv
           have hx:a.eval x=.slice ad l.length (gh.cap-l0.length):=by simpa using k2
           obtain⟨j,hij,hj,rfl⟩:=uZ hl'
           have hcap:(l0++l).length<=gh.cap:=k3.pN.2.2
           refine xp hE hEl j hij (cw a [x,y]) ho (by rw[bJ a [x,y] (by simp),hx]) (by rw[bJ a [x,y] (by simp),hy]) hj ⟨rfl,?_⟩
           simp only[val,bI,bH]
           have hl2:(l0++l.take j).length=l0.length+j:=by rw[ay,aH,Nat.min_eq_left hj]
           refine⟨gh,l0++l.take j,cX ad (gh.cap-l0.length) j (zK K ec.2),k1,?_,?_,by rw[az,List.take_append_drop];exact k3,by rw[az,List.take_append_drop];exact k4,fun hlt=>?_⟩
           . rw[hl2,Nat.sub_sub]
           . rw[hl2,<- Nat.sub_sub];exact hEl.from j hj
           . rw[hl2]at hlt ⊢
             rw[k5 (by omega),LG hlt]
         . exact gen h
       . exact gen h
     . rename_i i
       obtain⟨l',hl',h'⟩:=aa.1 h
       clear h;have h:=h';clear h'
       refine⟨_,h,sf.pure rfl rfl rfl fun g a m ha=>?_⟩
       obtain⟨hv,⟨_,hlo⟩,⟨hhi,_⟩,⟨_,hmx⟩⟩:=opn ha
       obtain⟨y,kk,rfl,hy⟩:=hhi _ rfl
       obtain rfl:=hlo rfl
       obtain rfl:=hmx rfl
       obtain⟨ad,n,hx,hEl⟩:=jU hl hv
       refine SZ hE hEl hl' (cw a [x,y]) ho (by rw[bJ a [x,y] (by simp),hx]) (by rw[bJ a [x,y] (by simp),hy]) fun a' c2 hA=>⟨rfl,?_⟩
       simp only[val,bI,bH]
       exact⟨a',c2,rfl,hA⟩
     . rename_i i j
       obtain⟨l',hl',h'⟩:=aa.1 h
       clear h;have h:=h';clear h'
       refine⟨_,h,sf.pure rfl rfl rfl fun g a m ha=>?_⟩
       obtain⟨hv,⟨hlo,_⟩,⟨hhi,_⟩,⟨_,hmx⟩⟩:=opn ha
       obtain⟨y,kk,rfl,hy⟩:=hlo _ rfl
       obtain⟨z,kk',rfl,hz⟩:=hhi _ rfl
       obtain rfl:=hmx rfl
       obtain⟨ad,n,hx,hEl⟩:=jU hl hv
       refine PG hE hEl hl' (cw a [x,y,z]) ho (by rw[bJ a [x,y,z] (by simp),hx]) (by rw[bJ a [x,y,z] (by simp),hy]) (by rw[bJ a [x,y,z] (by simp),hz]) fun a' c2 hA=>⟨rfl,?_⟩
       simp only[val,bI,bH]
       exact⟨a',c2,rfl,hA⟩
     . rename_i j mm
       obtain⟨u,hmj,h'⟩:=aa.1 h
       clear h;have h:=h';clear h'
       have hmj:=eO hmj
       subst hmj
       obtain⟨l',hl',h'⟩:=aa.1 h
       clear h;have h:=h';clear h'
       refine⟨_,h,sf.pure rfl rfl rfl fun g a m ha=>?_⟩
       obtain⟨hv,⟨_,hlo⟩,⟨hhi,_⟩,⟨hmx,_⟩⟩:=opn ha
       obtain⟨y,kk,rfl,hy⟩:=hhi _ rfl
       obtain⟨z,kk',rfl,hz⟩:=hmx _ rfl
       obtain rfl:=hlo rfl
       obtain⟨ad,n,hx,hEl⟩:=jU hl hv
       refine DW hE hEl hl' (cw a [x,y,z]) ho (by rw[bJ a [x,y,z] (by simp),hx]) (by rw[bJ a [x,y,z] (by simp),hy]) (by rw[bJ a [x,y,z] (by simp),hz]) fun a' hA=>⟨rfl,?_⟩
       simp only[val,bI,bH]
       exact⟨a',rfl,hA⟩
     . cases h
theorem Ih{lo hi:Option Value}{w:World}{n:Nat}{i j:Int}(hl:(lo=none/\i=0)\/∃kk,lo=some (.int kk i))(hh:(hi=none/\j=n)\/∃kk,hi=some (.int kk j))(h:0<=i/\i<=j/\j<=(n:Int)):
 (Instr.sliceBounds false n n lo hi none).run P w=.ok (i.toNat,j.toNat,n) w:=by
 obtain⟨i,rfl⟩:∃z:Nat,i=(z:Int):=⟨i.toNat,by omega⟩
 obtain⟨j,rfl⟩:∃z:Nat,j=(z:Int):=⟨j.toNat,by omega⟩
 have h1:i<=j:=by omega
 have h2:j<=n:=by omega
 rcases hl with⟨rfl,hi0⟩|⟨kk,rfl⟩
 . have:i=0:=by omega
   subst this
   rcases hh with⟨rfl,hj0⟩|⟨kk,rfl⟩
   . have:j=n:=by omega
     subst this
     simp[Instr.sliceBounds]
   . simp[Instr.sliceBounds,df h2]
 . rcases hh with⟨rfl,hj0⟩|⟨kk',rfl⟩
   . have:j=n:=by omega
     subst this
     simp[Instr.sliceBounds,df h1]
   . simp[Instr.sliceBounds,df h1,df h2]
theorem F5(hT:c9 P K tt){t:TypeId}{x:Operand}{lo hi mx:Option Operand}(ho:o.op=.slice t x lo hi mx){q off:Nat}{vs va vb vc:List (AV S)}{ilo ihi imx:Option Int}(h1:py lo vs=some (ilo,va))(h2:py hi va=some (ihi,vb))(h3:py mx vb=some (imx,vc))
 (h:rT tt t q off ilo ihi imx k=some r):dp P K o (.one (.ptr q off)::vs) ob ct k r:=by
 have hox:o.op.operands.toList=x::(lo.toList++(hi.toList++(mx.toList++[]))):=by rw[ho];simp[Op.operands]
 unfold rT at h
 obtain⟨ti,hti,h'⟩:=aa.1 h
 clear h;have h:=h';clear h'
 have htd:=(hT.ty t ti hti).td
 split at h
 . rename_i n e hd
   rw[hd]at htd
   obtain⟨ei,hei,h'⟩:=aa.1 h
   clear h;have h:=h';clear h'
   obtain⟨inf,g1,g2,g3,g4⟩:=info_parts (hT.ty e ei hei).info
   split at h
   . rename_i hs
     have hs:=ah hs
     obtain⟨u,hc,h'⟩:=aa.1 h
     clear h;have h:=h';clear h'
     have hc:=eO hc
     refine⟨_,h,sf.pure rfl rfl rfl fun g a m ha=>?_⟩
     rw[hox]at ha
     obtain⟨w,r,e0,k1,k2⟩:=ha
     cases e0
     simp only[bI,bH]at k1
     obtain⟨k3,k4,k4'⟩:=iI h1 k2
     obtain⟨k5,k6,k6'⟩:=iI h2 k3
     obtain⟨_,_,k8⟩:=iI h3 k5
     obtain rfl:=k8 rfl
     obtain⟨gh,b,l1,l2,l3⟩:=k1
     have hx:a.eval x=.pointer (some ⟨b,off,none⟩):=by simpa using l3
     have hb:(Instr.sliceBounds false n n (lo.map a.eval) (hi.map a.eval) none).run P m.w=.ok ((ilo.getD 0).toNat,(ihi.getD n).toNat,n) m.w:=by
      refine Ih ?_ ?_ ⟨hc.1,hc.2.2.1,hc.2.2.2⟩
      . cases ilo with
        |none=>obtain rfl:=k4' rfl;exact .inl ⟨rfl,rfl⟩
        |some i=>obtain⟨y,kk,rfl,hy⟩:=k4 _ rfl;exact .inr ⟨kk,by simp[hy]⟩
      . cases ihi with
        |none=>obtain rfl:=k6' rfl;exact .inl ⟨rfl,rfl⟩
        |some i=>obtain⟨y,kk,rfl,hy⟩:=k6 _ rfl;exact .inr ⟨kk,by simp[hy]⟩
     generalize ilo.getD 0=i at*
     generalize ihi.getD n=j at*
     have hu:P.underlying t=some (.array n e):=htd
     have hne:¬ n=i.toNat:=by omega
     have hs1:inf.size=1:=by rw[g3,hs]
     have hrun:(Instr.sliceAt t (.pointer (some ⟨b,off,none⟩)) (lo.map a.eval) (hi.map a.eval) none).run P m.w=.ok (.slice (some ⟨b,off+i.toNat,none⟩) (j.toNat-i.toNat) (n-i.toNat)) m.w:=by
      simp[Instr.sliceAt,run_underlying hu,Instr.sureAddr,hb,sizeOf,typeInfo,g1,hs1,hne,Addr.add_mid]
     refine bC.val (v:=.slice (some ⟨b,off+i.toNat,none⟩) (j.toNat-i.toNat) (n-i.toNat)) ?_ ⟨rfl,?_⟩
     . simp[execOp,ho,hx,hrun]
     . simp only[val,bI,bH]
       exact⟨gh,b,l1,l2,by rw[show(j-i).toNat=j.toNat-i.toNat by omega],hc.1,hc.2.2.1,hc.2.2.2⟩
   . cases h
 . cases h
theorem Mj(hT:c9 P K tt){t:TypeId}{x:Operand}{lo hi mx:Option Operand}(ho:o.op=.slice t x lo hi mx){q off:Nat}{vs va vb vc:List (AV S)}{ilo ihi imx:Option Int}(h1:py lo vs=some (ilo,va))(h2:py hi va=some (ihi,vb))(h3:py mx vb=some (imx,vc))
 (h:rS tt t q off ilo ihi imx ob k=some r):dp P K o (.one (.ptr q off)::vs) ob ct k r:=by
 have hox:o.op.operands.toList=x::(lo.toList++(hi.toList++(mx.toList++[]))):=by rw[ho];simp[Op.operands]
 unfold rS at h
 obtain⟨ti,hti,h'⟩:=aa.1 h
 clear h;have h:=h';clear h'
 have htd:=(hT.ty t ti hti).td
 split at h
 . rename_i n e hd
   rw[hd]at htd
   obtain⟨ei,hei,h'⟩:=aa.1 h
   clear h;have h:=h';clear h'
   obtain⟨⟨ver,ao⟩,hq,h'⟩:=aa.1 h
   clear h;have h:=h';clear h'
   obtain⟨inf,g1,g2,g3,g4⟩:=info_parts (hT.ty e ei hei).info
   split at h
   . rename_i T n1 f hao
     simp only at hao;subst hao
     split at h
     . rename_i hc
       simp only[al]at hc
       obtain⟨hn,hs,hn1,hn2⟩:=hc
       have hn:=ah hn
       subst hn
       have hs:=ah hs
       have hn1:=aj hn1
       have hn2:=aj hn2
       refine⟨_,h,by simp,fun g a m Lr Lm hf _ ha hr hm hO=>?_⟩
       simp only[pick,dS]at hr
       subst hr
       obtain⟨en,rfl,hoo,gh',b',us,j1,j2,rfl,j4⟩:=cS hm hq
       rw[hox]at ha
       obtain⟨w,r,e0,k1,k2⟩:=ha
       cases e0
       simp only[bI,bH]at k1
       obtain⟨k3,k4,k4'⟩:=iI h1 k2
       obtain⟨k5,k6,k6'⟩:=iI h2 k3
       obtain⟨_,_,k8⟩:=iI h3 k5
       obtain rfl:=k8 rfl
       obtain rfl:=k6' rfl
       obtain rfl:=k4' rfl
       obtain⟨gh,b,l1,l2,l3⟩:=k1
       rw[l1]at j1;have e1:=au j1;subst e1
       rw[l2]at j2;have e2:=au j2;subst e2
       have hx:a.eval x=.pointer (some ⟨b,0,none⟩):=by simpa using l3
       have hcs:=j8 j4
       simp only[bH]at hcs
       have hb:(Instr.sliceBounds false n1 n1 none none none).run P m.w=.ok (0,n1,n1) m.w:=by simp[Instr.sliceBounds]
       have hu:P.underlying t=some (.array n1 e):=htd
       have hne:¬ n1=0:=by omega
       have hs1:inf.size=1:=by rw[g3,hs]
       have hrun:(Instr.sliceAt t (.pointer (some ⟨b,0,none⟩)) none none none).run P m.w=.ok (.slice (some ⟨b,0,none⟩) n1 n1) m.w:=by
        simp[Instr.sliceAt,run_underlying hu,Instr.sureAddr,hb,sizeOf,typeInfo,g1,hs1,hne,Addr.add_mid]
       have hS:St (bF [bM.box b us.toArray T]) m m [bM.box b us.toArray T]:=St.refl (by simpa using hO)
       have hlen:(gl (α:=UInt8) n1 f).length=n1:=by simp[gl]
       have hA:eM oZ m 1 (some b) us.toArray (some ⟨b,0,none⟩) n1 (gl n1 f):=eM.ofBytes (by rw[hlen];exact Nat.le_refl _) (by unfold maxLen;omega) (fun z u hz=>by
        have hzl:z<n1:=by rw[<- hlen];exact(List.getElem?_eq_some_iff.1 hz).1
        unfold gl at hz;rw[List.getElem?_map,List.getElem?_range hzl]at hz;cases hz;rw[aJ,List.getElem?_toArray,hcs,List.getElem?_map,List.getElem?_range hzl];rfl) (by rw[hcs];simp)
       obtain⟨m',r1,r2,r3,r4⟩:=St.B8 Ie hS.toArr hA
       have hst:(execOp a.eval o).run P m.w=.ok (.value (.slice (some ⟨b,0,none⟩) n1 n1)) m.w:=by simp[execOp,ho,hx,hrun]
       refine bC.val (v:=.slice (some ⟨b,0,none⟩) n1 n1) hst ?_
       refine⟨m',g,[],r1,by simpa using r3,GE.refl g,rfl,rfl,fun i h=>absurd rfl h,rfl,?_⟩
       simp only[bI,bH]
       exact⟨_,_,by exact congrArg (fun z=>[Value.slice (some ⟨b,0,none⟩) z n1]) hlen.symm,r4⟩
     . cases h
   . cases h
 . cases h
theorem Mx{a:Act}{Kt_:Kt}{t e:TypeId}{zv:Value}{sz bytes cap n:Nat}{ad:Option Addr}{x y z:Operand}{k1 k2:IntKind}{i j:Int}{m:Mem}{bP:Value->World->Prop}(hT:cV P t e zv sz bytes)(hi:0<=i/\i<=j/\j<=(n:Int))(hc:n<=cap)(hK:Ke a Kt_)(ho:o.op=.slice t x (some y) (some z) none)
 (hxx:fu Kt_ x=some (.slice ad n cap)) (hy:fu Kt_ y=some (.int k1 i)) (hz:fu Kt_ z=some (.int k2 j)) (hp:bP (.slice (cX ad cap i.toNat sz) (j.toNat-i.toNat) (cap-i.toNat)) m.w):bC P o a m.w bP:=by
 obtain⟨i,rfl⟩:∃q:Nat,i=(q:Int):=⟨i.toNat,by omega⟩
 obtain⟨j,rfl⟩:∃q:Nat,j=(q:Int):=⟨j.toNat,by omega⟩
 have h1:j<=cap:=by omega
 have h2:i<=j:=by omega
 have:=jg (P:=P) (w:=m.w) hT ad n cap i j (some (.int k1 i)) (some (.int k2 j)) (by simp[Instr.sliceBounds,df h1,df h2])
 unfold bC execOp
 simp only[ho,ak,Option.map_none,hK.ev hxx,hK.ev hy,hK.ev hz,Sem.run_bind,this,Result.andThen_ok,Sem.run_pure]
 exact hp
theorem SB(hT:c9 P K tt){t:TypeId}{x:Operand}{lo hi mx:Option Operand}(ho:o.op=.slice t x lo hi mx){v:CV S}{vs va vb vc:List (AV S)}{ilo ihi imx:Option Int}(h1:py lo vs=some (ilo,va))(h2:py hi va=some (ihi,vb))(h3:py mx vb=some (imx,vc))
 (h:Ct tt t v ilo ihi imx ob ct k=some r):dp P K o (.one v::vs) ob ct k r:=by
 have hox:o.op.operands.toList=x::(lo.toList++(hi.toList++(mx.toList++[]))):=by rw[ho];simp[Op.operands]
 have opn:∀{g:GG S} {m:Mem} {a:Act},mb K g m a o.op.operands.toList (.one v::vs)->bH K g m v [a.eval x]/\((∀j,ilo=some j->∃y kk,lo=some y/\a.eval y=.int kk j)/\(ilo=none->lo=none))/\((∀j,ihi=some j->∃y kk,hi=some y/\a.eval y=.int kk j)/\(ihi=none->hi=none))/\((∀j,imx=some j->∃y kk,mx=some y/\a.eval y=.int kk j)/\(imx=none->mx=none)):=fun{g m a} ha=>by
  rw[hox]at ha;obtain⟨w,r,e,k1,k2⟩:=ha;cases e;simp only[bI]at k1;obtain⟨k3,k4⟩:=iI h1 k2;obtain⟨k5,k6⟩:=iI h2 k3;obtain⟨k7,k8⟩:=iI h3 k5;exact⟨k1,k4,k6,k8⟩
 unfold Ct at h
 split at h
 . rename_i q
   obtain⟨ec,hec,h'⟩:=aa.1 h
   clear h;have h:=h';clear h'
   obtain⟨hu,ei,hei,hE,hb⟩:=iE hT hec
   obtain⟨⟨ver,ao⟩,hq,h'⟩:=aa.1 h
   clear h;have h:=h';clear h'
   split at h
   . rename_i e' c' f l i hao
     simp only at hao;subst hao
     split at h
     . rename_i hc _
       subst hc
       obtain⟨u,hcc,h'⟩:=aa.1 h
       clear h;have h:=h';clear h'
       have hcc:=eO hcc
       refine⟨_,h,by simp,fun g a m Lr Lm hf _ ha hr hm hO=>?_⟩
       simp only[pick,dS]at hm
       subst hm
       obtain⟨en,rfl,hoo,gh,cs,j1,j2,rfl,j4,j5⟩:=cS hr hq
       obtain⟨hv,⟨hlo,_⟩,⟨_,hhi⟩,⟨_,hmx⟩⟩:=opn ha
       obtain⟨y,kk,rfl,hy⟩:=hlo _ rfl
       obtain rfl:=hhi rfl
       obtain rfl:=hmx rfl
       simp only[bH]at hv
       obtain⟨gh',k1,k2⟩:=hv
       rw[j1]at k1;have e1:=au k1;subst e1
       have hx:a.eval x=.slice gh.ad gh.n gh.cap:=by simpa using k2
       have hn:=j4.pN.2.2
       have hi2:0<=i/\i<=(gh.n:Int):=by omega
       have hn2:gh.n<=gh.cap:=by omega
       refine Mz (ad:=gh.ad) (cap:=gh.cap) (n:=gh.n) (i:=i) (k:=kk) hE hi2 hn2 (cw a [x,y]) ho (by rw[bJ a [x,y] (by simp),hx]) (by rw[bJ a [x,y] (by simp),hy]) ?_
       refine⟨m,g,[],rfl,by simpa using St.refl hO,GE.refl g,rfl,rfl,fun i h=>absurd rfl h,rfl,?_⟩
       simp only[bI,bH]
       refine⟨gh,j1,?_,by omega,by omega,by omega⟩
       rw[show((l.length:Int)-i).toNat=gh.n-i.toNat by omega]
     . cases h
   . rename_i e' c' f l i j hao
     simp only at hao;subst hao
     split at h
     . rename_i hc _
       subst hc
       obtain⟨u,hcc,h'⟩:=aa.1 h
       clear h;have h:=h';clear h'
       have hcc:=eO hcc
       refine⟨_,h,by simp,fun g a m Lr Lm hf _ ha hr hm hO=>?_⟩
       simp only[pick,dS]at hm
       subst hm
       obtain⟨en,rfl,hoo,gh,cs,j1,j2,rfl,j4,j5⟩:=cS hr hq
       obtain⟨hv,⟨hlo,_⟩,⟨hhi,_⟩,⟨_,hmx⟩⟩:=opn ha
       obtain⟨y,kk,rfl,hy⟩:=hlo _ rfl
       obtain⟨z,kk',rfl,hz⟩:=hhi _ rfl
       obtain rfl:=hmx rfl
       simp only[bH]at hv
       obtain⟨gh',k1,k2⟩:=hv
       rw[j1]at k1;have e1:=au k1;subst e1
       have hx:a.eval x=.slice gh.ad gh.n gh.cap:=by simpa using k2
       have hn:=j4.pN.2.2
       have hi2:0<=i/\i<=j/\j<=(gh.n:Int):=by omega
       have hn2:gh.n<=gh.cap:=by omega
       refine Mx (ad:=gh.ad) (cap:=gh.cap) (n:=gh.n) (i:=i) (j:=j) hE hi2 hn2 (cw a [x,y,z]) ho (by rw[bJ a [x,y,z] (by simp),hx]) (by rw[bJ a [x,y,z] (by simp),hy]) (by rw[bJ a [x,y,z] (by simp),hz]) ?_
       refine⟨m,g,[],rfl,by simpa using St.refl hO,GE.refl g,rfl,rfl,fun i h=>absurd rfl h,rfl,?_⟩
       simp only[bI,bH]
       refine⟨gh,j1,?_,by omega,by omega,by omega⟩
       rw[show(j-i).toNat=j.toNat-i.toNat by omega]
     . cases h
   . cases h
 . exact ok_slice hT ho h1 h2 h3 h
theorem S9{q:Nat}{s:CV S}{l x:List UInt8}(h:VI q s l=some x):(∃off n,s=.pt q .u8 off n/\x=(l.drop off.toNat).take n.toNat)\/S7 .u8 s=some x:=by
 cases s with
 |pt o' c off n=>
  left
  unfold VI at h
  simp only at h
  split at h
  . rename_i hc hq _
    obtain rfl:=ah hq
    subst hc
    exact⟨off,n,rfl,(au h).symm⟩
  . cases h
 |_=>exact .inr h
theorem Au:∀{o:Nat} {x:CV S} {vs ws vs1:List (CV S)} {v0:CV S} {cs:List Value},tq o x vs=some ws->cutAt o vs=some (v0::vs1)->cb K g m vs cs->∃pre c1 post,cs=pre++c1++post/\pre.length=o/\bH K g m v0 c1/\∀(g':GG S) (m':Mem),GE g g'->Le m m'->∀c2,bH K g' m' x c2->cb K g' m' ws (pre++c2++post)
 |0,x,[],_,_,_,_,h,_,_=>by simp[tq]at h
 |0,x,v::vs,ws,vs1,v0,cs,h,hc,hv=>by
  simp only[tq,af]at h;subst h;simp only[cutAt,af,bg]at hc;obtain⟨rfl,rfl⟩:=hc;obtain⟨c1,c2,rfl,h1,h2⟩:=hv;exact⟨[],c1,c2,by simp,rfl,h1,fun g' m' hg hm c3 h3=>⟨c3,c2,by simp,h3,h2.mono hg hm⟩⟩
 |o+1,x,[],_,_,_,_,h,_,_=>by simp[tq]at h
 |o+1,x,v::vs,ws,vs1,v0,cs,h,hc,hv=>by
  unfold tq at h;unfold cutAt at hc;obtain⟨c1,c2,rfl,h1,h2⟩:=hv;have hl:=h1.len;split at h
  . rename_i hle;rw[hle]at hc;have hle:=aj hle;obtain⟨ws',hw,rfl⟩:=ab.1 h;obtain⟨pre,c3,post,rfl,k2,k3,k4⟩:=Au hw hc h2;refine⟨c1++pre,c3,post,by simp,by rw[ay];omega,k3,fun g' m' hg hm c4 h4=>⟨c1,pre++c4++post,by simp,h1.mono hg hm,k4 g' m' hg hm c4 h4⟩⟩
  . cases h
termination_by _ _ vs=>vs.length
theorem zd{pre post:List Value}{n:Nat}{h:Nat->Value}(q:Nat):(pre++(List.range n).map h++post)[q]?=if q<pre.length then pre[q]? else if q<pre.length+n then some (h (q-pre.length))else post[q-pre.length-n]?:=by
 by_cases h1:q<pre.length
 . rw[if_pos h1,az,List.getElem?_append_left h1]
 . rw[if_neg h1];by_cases h2:q<pre.length+n
   . rw[if_pos h2,List.getElem?_append_left (by rw[ay,aP,List.length_range];exact h2),List.getElem?_append_right (by omega),List.getElem?_map,List.getElem?_range (by omega)];rfl
   . rw[if_neg h2,List.getElem?_append_right (by rw[ay,aP,List.length_range];omega),ay,aP,List.length_range,Nat.sub_sub]
theorem Yl{x y:Operand}{a:Act}{Kt_:Kt}{m:Mem}{bP:Value->World->Prop}{t t2 e:TypeId}{zv:Value}{bytes b n i j i2 j2 c c2:Nat}{T:TypeId}{pre post:List Value}{kk:IntKind}{f:Nat->Int}(hT:cV P t e zv 1 bytes)(hK:Ke a Kt_)
 (hO:Ow m [bM.box b (pre++(List.range n).map (fun q=>Value.int kk (f q))++post).toArray T]) (hij:i<=j/\j<=n) (hij2:i2<=j2/\j2<=n)
 (ho:o.op=.call ⟨.builtin .copy,#[x,y],#[t,t2]⟩) (hx:fu Kt_ x=some (.slice (some ⟨b,pre.length+i,none⟩) (j-i) c)) (hy:fu Kt_ y=some (.slice (some ⟨b,pre.length+i2,none⟩) (j2-i2) c2))
 (hp:∀m',Le m m'->St (bF [bM.box b (pre++(List.range n).map (fun q=>Value.int kk (f q))++post).toArray T]) m m' [bM.box b (pre++(List.range n).map (fun q=>Value.int kk (FT f i i2 (Nat.min (j2-i2) (j-i)) q))++post).toArray T]->bP (.int .i64 ((Nat.min (j2-i2) (j-i):Nat):Int)) m'.w):bC P o a m.w bP:=by
 generalize hus:(pre++(List.range n).map (fun q=>Value.int kk (f q))++post)=us at*
 have hsz:us.length=pre.length+n+post.length:=by rw[<- hus];simp;omega
 generalize hcnt:Nat.min (j2-i2) (j-i)=cnt at*
 have hc1:cnt<=j2-i2:=by rw[<- hcnt];exact Nat.min_le_left _ _
 have hc2:cnt<=j-i:=by rw[<- hcnt];exact Nat.min_le_right _ _
 generalize hxs:(List.range cnt).map (fun q=>Value.int kk (f (i2+q)))=xs
 have hlen:xs.length=cnt:=by rw[<- hxs];simp
 have hcell:∀k,m.w.cell? ⟨b,k,none⟩=us[k]?:=fun k=>by
  rw[yU (St.refl hO) 0 rfl];simp
 have hf:(Builtin.firstCells 1 cnt (.slice (some ⟨b,pre.length+i2,none⟩) (j2-i2) c2)).run P m.w=.ok xs.toArray m.w:=by
  refine run_firstCells_some (P:=P) m.w 1 cnt ⟨b,pre.length+i2,none⟩ (j2-i2) c2 xs (by rw[hlen,Nat.mul_one]) (fun q u hu=>?_);rw[Addr.add_mid,hcell,<- hus,zd];have hq:q<cnt:=by rw[<- hlen];exact(List.getElem?_eq_some_iff.1 hu).1
  rw[if_neg (by omega),if_pos (by omega)];rw[<- hxs,List.getElem?_map,List.getElem?_range hq]at hu;rw[<- hu,show pre.length+i2+q-pre.length=i2+q by omega];rfl
 have hS0:=St.refl hO
 have hb:=hS0.yS 0 rfl
 have hst:=run_storeCells_at P b (pre.length+i) T xs 0 us.toArray m.w hb (by rw[hlen];simp only[Nat.add_zero,List.size_toArray];omega) (fun u hu=>by
  rw[<- hxs]at hu;obtain⟨c,_,rfl⟩:=List.mem_map.1 hu;rfl)
 simp only[Nat.add_zero]at hst
 have hput:putAt us.toArray (pre.length+i) xs=(pre++(List.range n).map (fun q=>Value.int kk (FT f i i2 cnt q))++post).toArray:=by
  apply Array.ext_getElem?;intro q;rw[qJ _ _ _ (by rw[hlen,List.size_toArray];omega),List.getElem?_toArray,List.getElem?_toArray,zd,hlen];by_cases h1:pre.length+i<=q/\q<pre.length+i+cnt
  . rw[if_pos h1,if_neg (by omega),if_pos (by omega),<- hxs,List.getElem?_map,List.getElem?_range (by omega)];unfold FT;rw[if_pos ⟨by omega,by omega⟩,show q-pre.length-i+i2=i2+(q-(pre.length+i))by omega];rfl
  . rw[if_neg h1,<- hus,zd];split
    . rfl
    . split
      . unfold FT;rw[if_neg (by omega)]
      . rfl
 have hw:m.w.grownBy (m.w.setRow b (putAt us.toArray (pre.length+i) xs)) (some b):=⟨rfl,rfl,rfl,by simp,fun k' _ hk'=>setRow_other m.w b k' _ (fun e=>hk' (by rw[e]))⟩
 have hr:=hS0.write hw (by simp) (setRow_heap m.w b us.toArray _ T _ hb)
 have hrun:(Builtin.copy_ #[t,t2] o.type #[.slice (some ⟨b,pre.length+i,none⟩) (j-i) c,.slice (some ⟨b,pre.length+i2,none⟩) (j2-i2) c2]).run P m.w=.ok (.int .i64 (cnt:Nat)) (m.w.setRow b (putAt us.toArray (pre.length+i) xs)):=by
  simp[Builtin.copy_,run_underlying hT.fg,Builtin.lenOf,jh hT,hcnt,hf,hst,putAt,goInt]
 unfold bC execOp
 simp only[ho,resolve,invoke,builtin,Sem.run_bind,Sem.run_pure,Result.andThen_ok,aV,aF,bh,hK.ev hx,hK.ev hy,hrun]
 rw[<- hput]at hp
 exact hp ⟨_,m.ok⟩ hr.le hr
theorem Xw{x y:Operand}{a:Act}{Kt_:Kt}{m:Mem}{bP:Value->World->Prop}{t t2 e:TypeId}{zv:Value}{bytes b n i j c c2:Nat}{T:TypeId}{pre post:List Value}{f:Nat->UInt8}{l:List UInt8}{a2:Option Addr}(hT:cV P t e zv 1 bytes)(hK:Ke a Kt_)
 (hO:Ow m [bM.box b (pre++(List.range n).map (fun q=>U8 (f q))++post).toArray T]) (hij:i<=j/\j<=n) (hE:dc oZ m 1 a2 c2 l)
 (ho:o.op=.call ⟨.builtin .copy,#[x,y],#[t,t2]⟩) (hx:fu Kt_ x=some (.slice (some ⟨b,pre.length+i,none⟩) (j-i) c)) (hy:fu Kt_ y=some (.slice a2 l.length c2))
 (hp:∀m',Le m m'->St (bF [bM.box b (pre++(List.range n).map (fun q=>U8 (f q))++post).toArray T]) m m' [bM.box b (pre++(List.range n).map (fun q=>U8 (TA f i (Nat.min l.length (j-i)) l q))++post).toArray T]->bP (.int .i64 ((Nat.min l.length (j-i):Nat):Int)) m'.w):bC P o a m.w bP:=by
 generalize hus:(pre++(List.range n).map (fun q=>U8 (f q))++post)=us at*
 have hsz:us.length=pre.length+n+post.length:=by rw[<- hus];simp;omega
 generalize hcnt:Nat.min l.length (j-i)=cnt at*
 have hc1:cnt<=l.length:=by rw[<- hcnt];exact Nat.min_le_left _ _
 have hc2:cnt<=j-i:=by rw[<- hcnt];exact Nat.min_le_right _ _
 generalize hxs:(l.take cnt).map U8=xs
 have hlen:xs.length=cnt:=by rw[<- hxs];simp;omega
 have hf:(Builtin.firstCells 1 cnt (.slice a2 l.length c2)).run P m.w=.ok xs.toArray m.w:=by rw[<- hxs];exact Kw hE cnt hc1
 have hS0:=St.refl hO
 have hb:=hS0.yS 0 rfl
 have hst:=run_storeCells_at P b (pre.length+i) T xs 0 us.toArray m.w hb (by rw[hlen];simp only[Nat.add_zero,List.size_toArray];omega) (fun u hu=>by
  rw[<- hxs]at hu;obtain⟨c,_,rfl⟩:=List.mem_map.1 hu;rfl)
 simp only[Nat.add_zero]at hst
 have hput:putAt us.toArray (pre.length+i) xs=(pre++(List.range n).map (fun q=>U8 (TA f i cnt l q))++post).toArray:=by
  apply Array.ext_getElem?;intro q;rw[qJ _ _ _ (by rw[hlen,List.size_toArray];omega),List.getElem?_toArray,List.getElem?_toArray,zd,hlen];by_cases h1:pre.length+i<=q/\q<pre.length+i+cnt
  . rw[if_pos h1,if_neg (by omega),if_pos (by omega),<- hxs,List.getElem?_map,List.getElem?_take,if_pos (by omega),List.getElem?_eq_getElem (by omega)];unfold TA;rw[if_pos ⟨by omega,by omega⟩,List.getD_eq_getElem?_getD,show q-pre.length-i=q-(pre.length+i)by omega,List.getElem?_eq_getElem (by omega)];rfl
  . rw[if_neg h1,<- hus,zd];split
    . rfl
    . split
      . unfold TA;rw[if_neg (by omega)]
      . rfl
 have hw:m.w.grownBy (m.w.setRow b (putAt us.toArray (pre.length+i) xs)) (some b):=⟨rfl,rfl,rfl,by simp,fun k' _ hk'=>setRow_other m.w b k' _ (fun e=>hk' (by rw[e]))⟩
 have hr:=hS0.write hw (by simp) (setRow_heap m.w b us.toArray _ T _ hb)
 have hcnt':Nat.min (j-i) l.length=cnt:=by rw[<- hcnt];exact Nat.min_comm _ _
 have hrun:(Builtin.copy_ #[t,t2] o.type #[.slice (some ⟨b,pre.length+i,none⟩) (j-i) c,.slice a2 l.length c2]).run P m.w=.ok (.int .i64 (cnt:Nat)) (m.w.setRow b (putAt us.toArray (pre.length+i) xs)):=by
  simp[Builtin.copy_,run_underlying hT.fg,Builtin.lenOf,jh hT,hcnt,hcnt',hf,hst,putAt,goInt]
 unfold bC execOp
 simp only[ho,resolve,invoke,builtin,Sem.run_bind,Sem.run_pure,Result.andThen_ok,aV,aF,bh,hK.ev hx,hK.ev hy,hrun]
 rw[<- hput]at hp
 exact hp ⟨_,m.ok⟩ hr.le hr
theorem OX{t t2:TypeId}{ec:TypeId×Co}{zv:Value}{bytes:Nat}(hE:cV P t ec.1 zv (zK K ec.2) bytes){x y:Operand}(ho:o.op=.call ⟨.builtin .copy,#[x,y],#[t,t2]⟩){q off n:Nat}{i j:Int}{s:CV S}(h:CU ec q off n i j s ob k=some r):dp P K o [.one (.px q off n i j),.one s] ob ct k r:=by
 have hox:o.op.operands.toList=[x,y]:=by rw[ho];rfl
 unfold CU at h;split at h
 . rename_i q' off' n' i' j' kk0 hco;split at h
   . rename_i hbe;simp only[al,Nat.beq_eq]at hbe;obtain⟨rfl,rfl,rfl⟩:=hbe;obtain⟨⟨ver,ao⟩,hq,h'⟩:=aa.1 h;clear h;have h:=h';clear h';split at h
     . rename_i T cs hao;simp only at hao;subst hao;obtain⟨cs1,hcs1,h'⟩:=aa.1 h;clear h;have h:=h';clear h';split at h
       . rename_i n1 kk f ws;split at h
         . rename_i hn;have hn:=ah hn;subst hn;obtain⟨cs',hcs',h'⟩:=aa.1 h;clear h;have h:=h';clear h';refine⟨_,h,by simp,fun g a m Lr Lm hf _ ha hr hm hO=>?_⟩;simp only[pick,dS]at hr;subst hr;obtain⟨e,rfl,hoo,gh',b',us,j1,j2,rfl,j4⟩:=cS hm hq;rw[hox]at ha;obtain⟨hv,hw⟩:=dx ha;simp only[bI,bH]at hv hw;obtain⟨gh,b,k1,k2,k3,k4,k5,k6⟩:=hv;rw[k1]at j1;have e1:=au j1;subst e1;rw[k2]at j2;have e2:=au j2;subst e2;obtain⟨gh2,b2,l1,l2,l3,l4,l5,l6⟩:=hw;rw[k1]at l1;have e1:=au l1;subst e1;rw[k2]at l2;have e2:=au l2;subst e2;obtain⟨pre,c1,post,rfl,p2,p3,p4⟩:=Au hcs' hcs1 j4;simp only[bH]at p3;subst p3;subst p2;have hz:zK K ec.2=1:=by rw[hco];rfl
           rw[hz]at hE;obtain⟨i,rfl⟩:∃z:Nat,i=(z:Int):=⟨i.toNat,by omega⟩;obtain⟨j,rfl⟩:∃z:Nat,j=(z:Int):=⟨j.toNat,by omega⟩;obtain⟨i',rfl⟩:∃z:Nat,i'=(z:Int):=⟨i'.toNat,by omega⟩;obtain⟨j',rfl⟩:∃z:Nat,j'=(z:Int):=⟨j'.toNat,by omega⟩;have hx:a.eval x=.slice (some ⟨b,pre.length+i,none⟩) (j-i) (n1-i):=by
            have:((j:Int)-(i:Int)).toNat=j-i:=by omega
            simpa[this]using k3
           have hy:a.eval y=.slice (some ⟨b,pre.length+i',none⟩) (j'-i') (n1-i'):=by
            have:((j':Int)-(i':Int)).toNat=j'-i':=by omega
            simpa[this]using l3
           have hmin:j9 ((j:Int)-(i:Int)) ((j':Int)-(i':Int))=((Nat.min (j'-i') (j-i):Nat):Int):=by
            unfold j9;rcases Nat.lt_or_ge (j'-i') (j-i)with h|h
            . rw[if_pos (by omega),show Nat.min (j'-i') (j-i)=j'-i' from Nat.min_eq_left (by omega)];omega
            . rw[if_neg (by omega),show Nat.min (j'-i') (j-i)=j-i from Nat.min_eq_right h];omega
           refine Yl (n:=n1) (i:=i) (j:=j) (i2:=i') (j2:=j') hE (cw a [x,y]) (by simpa using hO) ⟨by omega,by omega⟩ ⟨by omega,by omega⟩ ho (by rw[bJ a [x,y] (by simp),hx]) (by rw[bJ a [x,y] (by simp),hy]) fun m' hle hS=>?_
           refine⟨m',g,_,rfl,by simpa using hS,GE.refl g,rfl,rfl,fun i h=>absurd rfl h,⟨_,[],rfl,⟨gh,b,_,k1,k2,rfl,p4 g m' (GE.refl g) hle _ ?_⟩,rfl⟩,?_⟩
           . simp only[bH,aK,hmin]
           . simp only[bI,bH,hmin]
         . cases h
       . cases h
     . cases h
   . cases h
 . rename_i hco;obtain⟨l,hl,h'⟩:=aa.1 h;clear h;have h:=h';clear h';obtain⟨⟨ver,ao⟩,hq,h'⟩:=aa.1 h;clear h;have h:=h';clear h';split at h
   . rename_i T cs hao;simp only at hao;subst hao;obtain⟨cs1,hcs1,h'⟩:=aa.1 h;clear h;have h:=h';clear h';split at h
     . rename_i n1 f ws;split at h
       . rename_i hn;have hn:=ah hn;subst hn;obtain⟨cs',hcs',h'⟩:=aa.1 h;clear h;have h:=h';clear h';refine⟨_,h,by simp,fun g a m Lr Lm hf _ ha hr hm hO=>?_⟩;simp only[pick,dS]at hr;subst hr;obtain⟨e,rfl,hoo,gh',b',us,j1,j2,rfl,j4⟩:=cS hm hq;rw[hox]at ha;obtain⟨hv,hw⟩:=dx ha;simp only[bI]at hv hw;simp only[bH]at hv;obtain⟨gh,b,k1,k2,k3,k4,k5,k6⟩:=hv;rw[k1]at j1;have e1:=au j1;subst e1;rw[k2]at j2;have e2:=au j2;subst e2;obtain⟨ad,c2,hy,hEl⟩:=jU hl hw;obtain⟨pre,c1,post,rfl,p2,p3,p4⟩:=Au hcs' hcs1 j4;simp only[bH]at p3;subst p3;subst p2;have hz:zK K ec.2=1:=by rw[hco];rfl
         rw[hz]at hE;obtain⟨i,rfl⟩:∃z:Nat,i=(z:Int):=⟨i.toNat,by omega⟩;obtain⟨j,rfl⟩:∃z:Nat,j=(z:Int):=⟨j.toNat,by omega⟩;have hx:a.eval x=.slice (some ⟨b,pre.length+i,none⟩) (j-i) (n1-i):=by
          have:((j:Int)-(i:Int)).toNat=j-i:=by omega
          simpa[this]using k3
         have hmin:j9 (List.length (α:=UInt8) l:Int) ((j:Int)-(i:Int))=((Nat.min (List.length (α:=UInt8) l) (j-i):Nat):Int):=by
          unfold j9;rcases Nat.lt_or_ge (j-i) (List.length (α:=UInt8) l)with h|h
          . rw[if_pos (by omega),show Nat.min (List.length (α:=UInt8) l) (j-i)=j-i from Nat.min_eq_right (by omega)];omega
          . rw[if_neg (by omega),show Nat.min (List.length (α:=UInt8) l) (j-i)=List.length (α:=UInt8) l from Nat.min_eq_left h]
         refine Xw (l:=l) (n:=n1) (i:=i) (j:=j) hE (cw a [x,y]) (by simpa using hO) ⟨by omega,by omega⟩ hEl ho (by rw[bJ a [x,y] (by simp),hx]) (by rw[bJ a [x,y] (by simp),hy];rfl) fun m' hle hS=>?_
         refine⟨m',g,_,rfl,by simpa using hS,GE.refl g,rfl,rfl,fun i h=>absurd rfl h,⟨_,[],rfl,⟨gh,b,_,k1,k2,rfl,p4 g m' (GE.refl g) hle _ ?_⟩,rfl⟩,?_⟩
         . simp only[bH,aK,hmin]
         . simp only[bI,bH,hmin]
       . cases h
     . cases h
   . cases h
 . cases h
theorem DG(hT:c9 P K tt){t t2:TypeId}{x y:Operand}(ho:o.op=.call ⟨.builtin .copy,#[x,y],#[t,t2]⟩){d s:CV S}(h:BX tt t d s ob k=some r):dp P K o [.one d,.one s] ob ct k r:=by
 have hox:o.op.operands.toList=[x,y]:=by rw[ho];rfl
 unfold BX at h;obtain⟨ec,hec,h'⟩:=aa.1 h;clear h;have h:=h';clear h';obtain⟨hu,ei,hei,hE,hb⟩:=iE hT hec;split at h
 . rename_i q c off n;obtain⟨⟨ver,ao⟩,hq,h'⟩:=aa.1 h;clear h;have h:=h';clear h';split at h
   . rename_i e c' full l hao;simp only at hao;subst hao;split at h
     . rename_i hc1 hc2 hc3 _ _ _;subst hc1;subst hc2;rw[hc3]at hE;obtain⟨x2,hx2,h'⟩:=aa.1 h;clear h;have h:=h';clear h';refine⟨_,h,by simp,fun g a m Lr Lm hf _ ha hr hm hO=>?_⟩;simp only[pick,dS]at hr;subst hr;obtain⟨en,rfl,hoo,gh,cs,j1,j2,rfl,j4,j5⟩:=cS hm hq;rw[hox]at ha;obtain⟨hv,hw⟩:=dx ha;simp only[bI,bH]at hv;obtain⟨gh',k1,k2,k3,k4,k5⟩:=hv;rw[j1]at k1;have e1:=au k1;subst e1;have hx:a.eval x=.slice (cX gh.ad gh.cap off.toNat 1) n.toNat (gh.cap-off.toNat):=by simpa[zK,yt]using k2
       have hO':Ow m [bM.arr gh.g cs e]:=by simpa using hO
       have hA:eM oZ m 1 gh.g cs gh.ad gh.cap l:=j4;have hfit:off.toNat+n.toNat<=l.length:=by omega
       obtain⟨a2,c2,hy,hsrc⟩:∃(a2:Option Addr) (c2:Nat),a.eval y=.slice a2 x2.length c2/\∀z,z<=x2.length->(Builtin.firstCells 1 z (.slice a2 x2.length c2)).run P m.w=.ok ((x2.take z).map U8).toArray m.w:=by
        rcases S9 hx2 with⟨off2,n2,rfl,hxe⟩|hs
        . simp only[bI,bH]at hw;obtain⟨gh',p1,p2,p3,p4,p5⟩:=hw;rw[j1]at p1;have e1:=au p1;subst e1;have hl2:((l.drop off2.toNat).take n2.toNat).length=n2.toNat:=by rw[aH,ba];omega
          have hlx:x2.length=n2.toNat:=(congrArg List.length hxe).trans hl2;refine⟨cX gh.ad gh.cap off2.toNat 1,gh.cap-off2.toNat,by rw[hlx];simpa[zK,yt]using p2,fun z hz=>?_⟩;have:=PQ (P:=P) (c2:=gh.cap-off2.toNat) 0 (St.refl hO') rfl hA (off:=off2.toNat) (n:=n2.toNat) (by have:List.length (α:=UInt8) l=gh.n:=j2;omega) z (Nat.le_trans hz (Nat.le_of_eq hlx));rw[hlx,hxe];exact this
        . simp only[bI]at hw;obtain⟨ad,c2,p1,p2⟩:=jU hs hw;exact⟨ad,c2,p1,fun z hz=>Kw p2 z hz⟩
       have hlen:(QM (α:=UInt8) l off.toNat (x2.take n.toNat)).length=gh.n:=Eq.trans (zk (α:=UInt8) (l:=l) (x:=x2.take n.toNat) (o:=off.toNat) (show off.toNat<=List.length (α:=UInt8) l by have:List.length (α:=UInt8) l=gh.n:=j2;omega)) j2;refine SW hE (cw a [x,y]) 0 (St.refl hO') rfl hA hfit hsrc ho (by rw[bJ a [x,y] (by simp),hx]) (by rw[bJ a [x,y] (by simp),hy]) fun m' cs2 hle hS hA2 hsz=>?_
       rw[show((n.toNat:Nat):Int)=n by omega];refine⟨m',g,[bM.arr gh.g cs2 e],rfl,by simpa using hS,GE.refl g,rfl,rfl,fun i h=>absurd rfl h,⟨_,[],rfl,⟨gh,cs2,j1,hlen,rfl,hA2,fun hf'=>?_⟩,rfl⟩,by simp only[bI,bH]⟩;obtain⟨q1,q2⟩:=j5 hf';refine⟨q1,?_,fun b hb=>by rw[hsz];exact q2.2 b hb⟩;rw[<- q1];exact hA2
     . cases h
   . cases h
 . exact OX hE ho h
 . cases h
theorem z8(hT:c9 P K tt){t:TypeId}{x:Operand}(ho:o.op=.call ⟨.builtin .clear,#[x],#[t]⟩){v:CV S}(h:vz tb tt t v ob k=some r):dp P K o [.one v] ob ct k r:=by
 have hox:o.op.operands.toList=[x]:=by rw[ho];rfl
 unfold vz at h;obtain⟨ec,hec,h'⟩:=aa.1 h;clear h;have h:=h';clear h';obtain⟨ei,hei,h'⟩:=aa.1 h;clear h;have h:=h';clear h';obtain⟨z,hz,h'⟩:=aa.1 h;clear h;have h:=h';clear h';obtain⟨hu,ei',hei',hE,hb⟩:=iE hT hec;rw[hei]at hei';cases hei';have hty:=hT.ty _ _ hei;split at h
 . rename_i q c off n;obtain⟨⟨ver,ao⟩,hq,h'⟩:=aa.1 h;clear h;have h:=h';clear h';split at h
   . rename_i e' c' full l hao;simp only at hao;subst hao;split at h
     . rename_i hc1 hc2 _ _;subst hc1;subst hc2;refine⟨_,h,by simp,fun g a m Lr Lm hf _ ha hr hm hO=>?_⟩;simp only[pick,dS]at hr;subst hr;obtain⟨en,rfl,hoo,gh,cs,j1,j2,rfl,j4,j5⟩:=cS hm hq;rw[hox]at ha;have hv:=dk ha;simp only[bI,bH]at hv;obtain⟨gh',k1,k2,k3,k4,k5⟩:=hv;rw[j1]at k1;have e1:=au k1;subst e1;have hx:a.eval x=.slice (cX gh.ad gh.cap off.toNat (zK K ec.2)) n.toNat (gh.cap-off.toNat):=by simpa using k2
       have hO':Ow m [bM.arr gh.g cs e']:=by simpa using hO
       have hfit:off.toNat+n.toNat<=l.length:=by omega
       have hRz:RK K ec.2 m z (zeroOf ei).cells.toList:=by rw[jV hty];exact qI (K:=K) (g:=g) (m:=m) hz (iZ hty.Ri)
       refine PF (bZ K ec.2) hE (cw a [x]) 0 (St.refl hO') rfl j4 hfit hRz (by rw[jV hty];exact GK hty.Ri) ho (by rw[bJ a [x] (by simp),hx]) fun m' cs2 hle hS hA2 hsz=>?_
       refine⟨m',g,[bM.arr gh.g cs2 e'],rfl,by simpa using hS,GE.refl g,rfl,rfl,fun i h=>absurd rfl h,⟨_,[],rfl,⟨gh,cs2,j1,(ED hfit).trans j2,rfl,hA2,fun hf'=>?_⟩,rfl⟩,by simp only[bI,cF];exact⟨[],rfl,rfl⟩⟩;obtain⟨q1,q2⟩:=j5 hf';refine⟨q1,?_,fun b hb=>by rw[hsz];exact q2.2 b hb⟩;rw[<- q1];exact hA2
     . cases h
   . cases h
 . cases h
theorem Ad{t:TypeId}{x y:Operand}(ho:o.op=.index t x y)(hu:P.underlying t=some .string){l:List UInt8}{iv:AV S}{i:Int}(hi:idxOf iv=some i){c:UInt8}(hc:idx l i=some c)(h:k (val (.u8 c))=some r):dp P K o [.one (.str l),iv] ob ct k r:=by
 have hox:o.op.operands.toList=[x,y]:=by rw[ho];rfl
 refine jM hox h fun g a m hv hw=>?_
 simp only[bH]at hv;have hx:a.eval x=.string (Proofs.YtjfkdglgecgjfaaGreat.str l):=by simpa using hv
 obtain⟨kk,hy⟩:=lP hi hw;obtain⟨jn,rfl,hj⟩:=qy hc;refine bC.val (v:=.int .u8 (c.toNat:Int)) ?_ ⟨rfl,by simp only[val,bI,bH]⟩;have hlt:=(List.getElem?_eq_some_iff.1 hj).1;have he:=(List.getElem?_eq_some_iff.1 hj).2;have hb:((⟨l.toArray⟩:ByteArray))[jn]?=some c:=by
  have hs:jn<(⟨l.toArray⟩:ByteArray).size:=by simpa[ByteArray.size]using hlt
  rw[getElem?_pos (⟨l.toArray⟩:ByteArray) jn hs];exact congrArg some (by rw[<- he];rfl)
 simp[execOp,ho,hx,hy,Instr.index,asIntOf,run_underlying hu,hb]
theorem F3(hT:c9 P K tt){t e:TypeId}{x y:Operand}(ho:o.op=.index t x y){n:Nat}(hu:P.underlying t=some (.array n e)){ei:TI S}(hei:tt e=some ei)(hs:ei.size=1)(hA:ep ei.d=false){kk:IntKind}{f:Nat->Int}{iv:AV S}{i:Int}(hi:idxOf iv=some i)(hc:0<=i/\i<(n:Int))(h:k (val (.int kk (oM f i)))=some r):dp P K o [.agg [.ai n kk f],iv] ob ct k r:=by
 have hox:o.op.operands.toList=[x,y]:=by rw[ho];rfl
 refine⟨_,h,dF fun g a m ha=>?_⟩;rw[hox]at ha;obtain⟨hv,hw⟩:=dx ha;simp only[bI]at hv;obtain⟨cs,hx,hcs⟩:=hv;have hcs:=j8 hcs;simp only[bH]at hcs;subst hcs;obtain⟨ky,hy⟩:=lP hi hw;have hag:=(hT.ty e ei hei).agg;rw[hA,hs]at hag;obtain⟨d',i',hu',hi',hd',hs'⟩:=gK hag;obtain⟨i,rfl⟩:∃z:Nat,i=(z:Int):=⟨i.toNat,by omega⟩;have GP:i<n:=by omega
 refine⟨.int kk (f i),?_,by simp only[val,bI,bH];simp[oM]⟩;have hcell:(((List.range n).map (fun q=>Value.int kk (f q))).toArray)[i*1]?=some (.int kk (f i)):=by
  rw[List.getElem?_toArray,Nat.mul_one,List.getElem?_map,List.getElem?_range GP];rfl
 have hb:(isAgg e).run P m.w=.ok false m.w:=by rw[jf hu',hd']
 have hlt:(i:Int)<(n:Int):=hc.2;simp[execOp,ho,hx,hy,Instr.index,asIntOf,run_underlying hu,part,hb,sizeOf,typeInfo,hi',hs',GP]
end E
end
end Go.Proofs.YtjfkdglgecgjfaaGreat
