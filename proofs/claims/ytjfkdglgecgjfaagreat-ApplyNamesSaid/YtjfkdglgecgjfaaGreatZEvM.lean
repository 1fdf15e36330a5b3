/- Part of the proof. -/
import Derived.Test.YtjfkdglgecgjfaaGreatZEvR
namespace Go.Proofs.YtjfkdglgecgjfaaGreat
section
open Go.RowKit G
namespace E
variable {S:Nat->Type}{tb:Tb S}{K:db tb}{P:Program}{o:Oper}{xs:List (AV S)}{ob:List (Nat×Nat×AO S)}{ct:Nat}{γ:Type}{k:ek S->Option γ}{r:γ}{tt:TypeId->Option (TI S)}{g:GG S}{m:Mem}
def GG.eV(g:GG S)(i:Nat)(x:Gh):GG S:={g with bk:=fun j=>if j=i then some x else g.bk j}
theorem GG.dK{i:Nat}{x:Gh}(h:g.bk i=none):GE g (g.eV i x):=
 ⟨fun j y hy=>by unfold GG.eV;simp only;by_cases e:j=i
                 . subst e;rw[h]at hy;cases hy
                 . rw[if_neg e];exact hy,fun _ _ h=>h,fun _ _ h=>h⟩
theorem GG.bL{i:Nat}{x:Gh}:(g.eV i x).bk i=some x:=by simp[GG.eV]
theorem GG.df{x:Gh}:∀i,(g.eV (ct+1) x).bk i≠g.bk i->ct+1<=i/\i<ct+32:=fun i h=>by
 by_cases e:i=ct+1
 . omega
 . exact absurd (by simp[GG.eV,e]) h
theorem FG:∀{v:CV S},NX v=true->∀u∈nL v,u.oneCell'=true
 |.int _ _,_| .u8 _,_| .tt _,_| .str _,_| .dx,_| .dM,_| .dI,_| .u6,_| .rS,_=>by intro u hu;simp[nL]at hu;subst hu;rfl
 |.a8 _ _,_| .ai _ _ _,_=>by intro u hu;simp[nL]at hu;obtain⟨_,_,rfl⟩:=hu;rfl
theorem Bb{vs:List (CV S)}(h:vs.all NX=true):∀u∈eP vs,u.oneCell'=true:=by
 intro u hu;unfold eP at hu;obtain⟨v,hv,hu⟩:=List.mem_flatMap.1 hu;exact FG (aF.1 h v hv) u hu
theorem gP{t:TypeId}{i:TI S}(h:vZ P t i):(zeroOf i).cells.toList=eP i.zero:=by
 unfold zeroOf;split
 . simp[Value.cells]
 . rename_i hA;have h1:=h.len;rw[h.one hA]at h1;have h2:=Bb h.Jm
   match hz:eP i.zero,h1 with
   |[v],_=>
    rw[hz]at h2
    have:=h2 v (by simp)
    cases v<;>first|rfl|cases this
theorem ko{a:AV S}{vs:List (CV S)}{v:Value}(h:jE a=some vs)(hv:bu K g m a v):bT K g m vs v.cells.toList:=by
 cases a with
 |one x=>
  simp only[jE,ae]at h;subst h
  simp only[bu]at hv
  have h1:=Gp hv v (by simp)
  have:v.cells= #[v]:=by cases v<;>first|rfl|cases h1
  rw[this];exact eR hv
 |agg l=>
  simp only[jE,ae]at h;subst h
  simp only[bu]at hv
  obtain⟨cs,rfl,h1⟩:=hv
  simpa[Value.cells]using h1
 |du l=>cases h
theorem De(hf:eA g ct){b:Nat}{cs:Array Value}{vs:List (CV S)}{t:TypeId}{m':Mem}(hle:Le m m')(hS:St [] m m' [.box b cs t])(hc:bT K g m vs cs.toList):
 sI K g m ct [] [] {v:=.one (.ptr (ct+1) 0),add:=[(ct+1,.box t vs)]} (.pointer (some ⟨b,0,none⟩)) m'.w:=by
 have hg:=GG.dK (x:=⟨some b,none,0,0,default⟩) (hf (ct+1) (by omega) (by omega)).1
 refine⟨m',g.eV (ct+1) ⟨some b,none,0,0,default⟩,[.box b cs t],rfl,by simpa using hS,hg,rfl,rfl,GG.df,⟨_,[],rfl,⟨_,b,cs.toList,GG.bL,rfl,by simp,hc.mono hg hle⟩,rfl⟩,?_⟩
 simp only[bu,bt]
 exact⟨_,b,GG.bL,rfl,rfl⟩
theorem vd(hT:cu P K tt){t:TypeId}(ho:o.op=.alloc t){ti:TI S}(hti:tt t=some ti)(h:k {v:=.one (.ptr (ct+1) 0),add:=[(ct+1,.box t ti.zero)]}=some r):cH P K o xs ob ct k r:=by
 refine⟨_,h,by simp,fun g a m Lr Lm hf _ ha hr hm hO=>?_⟩;simp only[pick,dg]at hr hm;subst hr;subst hm;have hty:=hT.ty t ti hti;have hz:(P.info? t).map (·.zero)=some (some (zeroOf ti)):=by
  obtain⟨inf,h1,h2,_⟩:=info_parts hty.info;simp[h1,h2]
 exact KA (zeroOf ti) (Ke.nil a) (St.refl (Ow.nil m)) ho hz fun m' b _ hle hS=>De hf hle (by simpa using hS) (by rw[gP hty];exact fO hty.Jm)
theorem Cg{t:TypeId}{x:Operand}(ho:o.op=.box t x){v:AV S}{cs:List (CV S)}(hc:jE v=some cs)(h:k {v:=.one (.ptr (ct+1) 0),add:=[(ct+1,.box t cs)]}=some r):cH P K o [v] ob ct k r:=by
 refine⟨_,h,by simp,fun g a m Lr Lm hf _ ha hr hm hO=>?_⟩;simp only[pick,dg]at hr hm;subst hr;subst hm;rw[ho]at ha;have hv:=ko hc (cF ha);exact Pa (bU a [x]) (St.refl (Ow.nil m)) ho (bw a [x] (by simp)) fun m' b _ hle hS=>De hf hle (by simpa using hS) hv
theorem uX{ti:TI S}{vs:Option (List (CV S))}{one:Option (CV S)}{rd:List Nat}(h:n6 ti vs one rd k=some r):(dt ti.d=true/\∃l,vs=some l/\k {v:=.agg l,rd:=rd}=some r)\/(dt ti.d=false/\∃v,one=some v/\k {v:=.one v,rd:=rd}=some r):=by
 unfold n6 at h;split at h
 . rename_i hA;obtain⟨l,h1,h2⟩:=aa.1 h;exact .inl ⟨hA,l,h1,h2⟩
 . rename_i hA;obtain⟨l,h1,h2⟩:=aa.1 h;exact .inr ⟨hA,l,h1,h2⟩
def CK(P:Program)(K:db tb)(g:GG S)(m:Mem)(o:Oper)(a:Act)(ti:TI S)(off:Nat)(vs:List (CV S)):Prop:=
 (∀l,dt ti.d=true->(cutAt off vs).bind (ku ti.size)=some l->∃u,(execOp a.eval o).run P m.w=.ok (.value u) m.w/\bu K g m (.agg l) u)/\
  (∀v,dt ti.d=false->mM off vs=some v->∃u,(execOp a.eval o).run P m.w=.ok (.value u) m.w/\bu K g m (.one v) u)
theorem yd(hT:cu P K tt){t:TypeId}{x:Operand}(ho:o.op=.load t x){ti:TI S}(hti:tt t=some ti){a:Act}{b p off:Nat}{ecs:List Value}{vs:List (CV S)}(hx:a.eval x=.pointer (some ⟨b,p+off,none⟩))(hA:∀i u,ecs[i]?=some u->m.w.cell? ⟨b,p+i,none⟩=some u)(hv:bT K g m vs ecs):CK P K g m o a ti off vs:=by
 have hag:=(hT.ty t ti hti).agg;constructor
 . intro l hA' hl;obtain⟨l',hl',hl⟩:=aa.1 hl;obtain⟨k1,k2⟩:=kr hl' hv;obtain⟨k3,k4⟩:=mQ hl k1;rw[hA']at hag;have hlen:((ecs.drop off).take ti.size).length=ti.size:=by rw[aG];omega
   refine⟨.agg ((ecs.drop off).take ti.size).toArray,?_,by simp only[bu];exact⟨_,rfl,k3⟩⟩;have hrun:=su (P:=P) (w:=m.w) (b:=b) (o:=p+off) (cs:=(ecs.drop off).take ti.size) (t:=t) (by rw[hlen];exact hag) (fun i u hu=>by
    rw[List.getElem?_take]at hu;split at hu
    . rw[List.getElem?_drop]at hu;rw[Nat.add_assoc];exact hA _ _ hu
    . cases hu)
   simp[execOp,ho,hx,Instr.loadAt,Instr.sureAddr,hrun]
 . intro v hA' hl;obtain⟨u,k1,k2⟩:=pX hl hv;rw[hA']at hag;refine⟨u,?_,by simp only[bu];exact k2⟩;have hrun:=ov (P:=P) (w:=m.w) (b:=b) (o:=p+off) (t:=t) hag (hA off u k1);simp[execOp,ho,hx,Instr.loadAt,Instr.sureAddr,hrun]
theorem fP{q ver:Nat}{ao:AO S}{v:CV S}{av:AV S}{x:Operand}(hx:o.op.operands.toList=[x])(hq:look q ob=some (ver,ao))(h:k {v:=av,rd:=[q]}=some r)
 (hrun:∀(g:GG S) (a:Act) (m:Mem) (e:bB),bt K g m v [a.eval x]->g.oo ver=some (ao,e)->eO K g m q ao e->Ow m [e]->∃u,(execOp a.eval o).run P m.w=.ok (.value u) m.w/\bu K g m av u):cH P K o [.one v] ob ct k r:=by
 refine⟨_,h,by simp,fun g a m Lr Lm hf _ ha hr hm hO=>?_⟩
 simp only[pick,dg]at hm
 subst hm
 obtain⟨e,rfl,hoo,hob⟩:=cb hr hq
 rw[hx]at ha
 have hv:=cF ha
 simp only[bu]at hv
 have hO':Ow m [e]:=by simpa using hO
 obtain⟨u,h1,h2⟩:=hrun g a m e hv hoo hob hO'
 exact bp.val h1 (sI.pure rfl hO' h2)
theorem Ey{f:Nat->UInt8}{n:Nat}{i:Int}(h:0<=i/\i<(n:Int)):((List.range n).map (fun j=>Value.int .u8 ((f j).toNat:Int)))[i.toNat]?=some (.int .u8 ((lH f i).toNat:Int)):=by
 have:i.toNat<n:=by omega
 simp[this,lH]
theorem Bz{f:Nat->Int}{kk:IntKind}{n:Nat}{i:Int}(h:0<=i/\i<(n:Int)):((List.range n).map (fun j=>Value.int kk (f j)))[i.toNat]?=some (.int kk (lH f i)):=by
 have:i.toNat<n:=by omega
 simp[this,lH]
theorem yt(hT:cu P K tt){t:TypeId}{x:Operand}(ho:o.op=.load t x){v:CV S}(h:wR tb tt t v ob k=some r):cH P K o [.one v] ob ct k r:=by
 have hox:o.op.operands.toList=[x]:=by rw[ho];rfl
 unfold wR at h;obtain⟨ti,hti,h'⟩:=aa.1 h;clear h;have h:=h';clear h';split at h
 . rename_i q off;obtain⟨⟨ver,ao⟩,hq,h'⟩:=aa.1 h;clear h;have h:=h';clear h';split at h
   . rename_i T cs hao;simp only at hao;subst hao;have key:∀(g:GG S) (a:Act) (m:Mem) (e:bB),bt K g m (.ptr q off) [a.eval x]->g.oo ver=some (.box T cs,e)->eO K g m q (.box T cs) e->Ow m [e]->CK P K g m o a ti off cs:=fun g a m e hv _ hob hO=>by
      simp only[bt]at hv;obtain⟨gh,b,k1,k2,k3⟩:=hv;obtain⟨gh',b',us,j1,j2,rfl,j4⟩:=hob;rw[k1]at j1;have e1:=ar j1;subst e1;rw[k2]at j2;have e2:=ar j2;subst e2;have hx:a.eval x=.pointer (some ⟨b,0+off,none⟩):=by rw[aI];simpa using k3
      exact yd (K:=K) (g:=g) hT ho hti hx (fun i u hu=>by rw[aI,ue (St.refl hO) 0 rfl];simpa using hu) j4
     rcases uX h with⟨hA,l,hl,h⟩|⟨hA,w,hl,h⟩
     . exact fP hox hq h fun g a m e h1 h2 h3 h4=>(key g a m e h1 h2 h3 h4).1 l hA hl
     . exact fP hox hq h fun g a m e h1 h2 h3 h4=>(key g a m e h1 h2 h3 h4).2 w hA hl
   . cases h
 . rename_i c y off;have key:∀(g:GG S) (a:Act) (m:Mem),bt K g m (.el c y off) [a.eval x]->CK P K g m o a ti off (IX tb c y):=fun g a m hv=>by
    simp only[bt]at hv;obtain⟨b,p,ecs,k1,k2,k3⟩:=hv;have hx:a.eval x=.pointer (some ⟨b,p+off,none⟩):=by simpa using k1
    exact yd (K:=K) (g:=g) hT ho hti hx (fun i u hu=>(k3 i u hu).2) (vV k2)
   rcases uX h with⟨hA,l,hl,h⟩|⟨hA,w,hl,h⟩
   . exact⟨_,h,cZ fun g a m ha=>by rw[hox]at ha;have:=cF ha;simp only[bu]at this;exact(key g a m this).1 l hA hl⟩
   . exact⟨_,h,cZ fun g a m ha=>by rw[hox]at ha;have:=cF ha;simp only[bu]at this;exact(key g a m this).2 w hA hl⟩
 . rename_i q ver0 c y j off;obtain⟨⟨ver,ao⟩,hq,h'⟩:=aa.1 h;clear h;have h:=h';clear h';split at h
   . rename_i hver;have hver:=af hver;simp only at hver;subst hver;have key:∀(g:GG S) (a:Act) (m:Mem) (e:bB),bt K g m (.Bg q ver c y j off) [a.eval x]->g.oo ver=some (ao,e)->eO K g m q ao e->Ow m [e]->CK P K g m o a ti off (IX tb c y):=fun g a m e hv hoo hob hO=>by
      simp only[bt]at hv;obtain⟨gh,b,p,e',f,l,en,k1,k2,k3,k4,k5⟩:=hv;rw[hoo]at k4;cases k4;obtain⟨gh',cs,j1,j2,rfl,j4,j5⟩:=hob;rw[k1]at j1;have e1:=ar j1;subst e1;obtain⟨jn,rfl,hj⟩:=mY k5;have hjl:jn<l.length:=(List.getElem?_eq_some_iff.1 hj).1;have hy:l[jn]=y:=(List.getElem?_eq_some_iff.1 hj).2;obtain⟨b',p',ecs,hg,had,hel⟩:=j4.elem (bK K c).pos hjl;rw[aP,had]at k2;cases k2;have hx:a.eval x=.pointer (some ⟨b,p+off,none⟩):=by simpa using k3
      have hrel:=hel.rel;rw[hy]at hrel;have hS:=St.refl hO;rw[hg]at hS;have hheap:m.w.heap[b]?=some (.cells cs e' (0,0)):=by
       have:=hO.ok (.arr gh.g cs e') (by simp);exact this b hg
      exact yd (K:=K) (g:=g) hT ho hti hx (fun i u hu=>by
       rw[cell_of_row _ _ _ _ _ _ hheap];exact hel.get i u hu) (vV hrel)
     rcases uX h with⟨hA,l,hl,h⟩|⟨hA,w,hl,h⟩
     . exact fP hox hq h fun g a m e h1 h2 h3 h4=>(key g a m e h1 h2 h3 h4).1 l hA hl
     . exact fP hox hq h fun g a m e h1 h2 h3 h4=>(key g a m e h1 h2 h3 h4).2 w hA hl
   . cases h
 . rename_i q off n j;obtain⟨⟨ver,ao⟩,hq,h'⟩:=aa.1 h;clear h;have h:=h';clear h';split at h
   . rename_i T cs hao hA;simp only at hao;subst hao;obtain⟨ds,hds,h'⟩:=aa.1 h;clear h;have h:=h';clear h';have hag:=(hT.ty t ti hti).agg;rw[hA]at hag;have key:∀(g:GG S) (a:Act) (m:Mem) (e:bB) (w:CV S) (ws:List (CV S)) (u:Value),ds=w::ws->(∀cs0:List Value,bt K g m w cs0->cs0[j.toNat]?=some u)->bt K g m (.Gw q off n j) [a.eval x]->eO K g m q (.box T cs) e->Ow m [e]->(execOp a.eval o).run P m.w=.ok (.value u) m.w:=fun g a m e w ws u hdw hwu hv hob hO=>by
      simp only[bt]at hv;obtain⟨gh,b,k1,k2,k3,k4⟩:=hv;obtain⟨gh',b',us,j1,j2,rfl,j4⟩:=hob;rw[k1]at j1;have e1:=ar j1;subst e1;rw[k2]at j2;have e2:=ar j2;subst e2;have hx:a.eval x=.pointer (some ⟨b,off+j.toNat,none⟩):=by simpa using k3
      obtain⟨q1,q2⟩:=kr hds j4;rw[hdw]at q1;obtain⟨c1,c2,he,q3,_⟩:=q1;have hu:=hwu c1 q3;have hcell:m.w.cell? ⟨b,off+j.toNat,none⟩=some u:=by
       rw[ue (St.refl hO) 0 rfl];have:(us.drop off)[j.toNat]?=some u:=by
        rw[he,List.getElem?_append_left (List.getElem?_eq_some_iff.1 hu).1];exact hu
       rw[List.getElem?_drop]at this;simpa using this
      have hrun:=ov (P:=P) (w:=m.w) (b:=b) (o:=off+j.toNat) (t:=t) hag hcell;simp[execOp,ho,hx,Instr.loadAt,Instr.sureAddr,hrun]
     have hb:∀(g:GG S) (a:Act) (m:Mem),bt K g m (.Gw q off n j) [a.eval x]->0<=j/\j<(n:Int):=fun g a m hv=>by
      simp only[bt]at hv;obtain⟨gh,b,k1,k2,k3,k4⟩:=hv;exact k4
     split at h
     . rename_i n' f ws;split at h
       . rename_i hn;have hn:=af hn;subst hn;exact fP hox hq h fun g a m e h1 h2 h3 h4=>⟨_,key g a m e _ ws _ rfl (fun cs0 hc=>by simp only[bt]at hc;rw[hc];exact Ey (hb g a m h1)) h1 h3 h4,by simp only[bu,bt]⟩
       . cases h
     . rename_i n' kk f ws;split at h
       . rename_i hn;have hn:=af hn;subst hn;exact fP hox hq h fun g a m e h1 h2 h3 h4=>⟨_,key g a m e _ ws _ rfl (fun cs0 hc=>by simp only[bt]at hc;rw[hc];exact Bz (hb g a m h1)) h1 h3 h4,by simp only[bu,bt]⟩
       . cases h
     . cases h
   . cases h
 . cases h
theorem yD{o n:Nat}{xs vs ws:List (CV S)}{cs ds:List Value}(h:HM o n xs vs=some ws)(hx:bT K g m xs ds)(hv:bT K g m vs cs):ds.length=n/\o+n<=cs.length/\bT K g m ws (cs.take o++ds++cs.drop (o+n)):=by
 unfold HM at h;split at h
 . rename_i hn;have hn:=af hn;have hl:=Dd hx;rw[hn]at hl;split at h
   . rename_i x h1 _;have h1:=af h1;have hl1:=hl.trans h1;obtain⟨u,rfl⟩:=List.length_eq_one_iff.1 hl1;obtain⟨k1,k2⟩:=DZ h (gV hx) hv;rw[h1];refine⟨rfl,k2,?_⟩;rw[<- oY _ _ _ k2];exact k1
   . obtain⟨k1,k2⟩:=Ko h hx hl hv;exact⟨hl,k2,k1⟩
 . cases h
theorem yE:∀{o:Nat} {x:CV S} {vs ws vs1:List (CV S)} {v0:CV S} {cs:List Value} {i:Nat} {u:Value},pG o x vs=some ws->cutAt o vs=some (v0::vs1)->bT K g m vs cs->i<v0.n->(∀c1,bt K g m v0 c1->bt K g m x (c1.set i u))->bT K g m ws (cs.set (o+i) u)/\o+i<cs.length
 |0,x,[],_,_,_,_,_,_,h,_,_,_,_=>by simp[pG]at h
 |0,x,v::vs,ws,vs1,v0,cs,i,u,h,hc,hv,hi,hx=>by
  simp only[pG,ae]at h;subst h;simp only[cutAt,ae,a6]at hc;obtain⟨rfl,rfl⟩:=hc;obtain⟨c1,c2,rfl,h1,h2⟩:=hv;have:=h1.len;refine⟨⟨c1.set i u,c2,?_,hx c1 h1,h2⟩,by rw[ay];omega⟩;rw[aI,List.set_append_left _ _ (by omega)]
 |o+1,x,[],_,_,_,_,_,_,h,_,_,_,_=>by simp[pG]at h
 |o+1,x,v::vs,ws,vs1,v0,cs,i,u,h,hc,hv,hi,hx=>by
  unfold pG at h;unfold cutAt at hc;obtain⟨c1,c2,rfl,h1,h2⟩:=hv;have hl:=h1.len;split at h
  . rename_i hle;rw[hle]at hc;have hle:=aj hle;obtain⟨ws',hw,rfl⟩:=ab.1 h;obtain⟨k1,k2⟩:=yE hw hc h2 hi hx;refine⟨⟨c1,c2.set (o+1-v.n+i) u,?_,h1,k1⟩,by rw[ay];omega⟩;rw[List.set_append_right _ _ (by omega),hl,show o+1+i-v.n=o+1-v.n+i by omega]
  . cases h
termination_by _ _ vs=>vs.length
theorem Ez{f:Nat->UInt8}{n:Nat}{i:Int}{y:UInt8}(h:0<=i/\i<(n:Int)):((List.range n).map (fun j=>Value.int .u8 ((f j).toNat:Int))).set i.toNat (.int .u8 (y.toNat:Int))=(List.range n).map (fun j=>Value.int .u8 ((nC f i y j).toNat:Int)):=by
 obtain⟨q,rfl⟩:∃q:Nat,i=(q:Int):=⟨i.toNat,by omega⟩;rw[mh n f q y (fun c:UInt8=>Value.int .u8 (c.toNat:Int)) (by omega)];simp
theorem BA{f:Nat->Int}{kk:IntKind}{n:Nat}{i:Int}{y:Int}(h:0<=i/\i<(n:Int)):((List.range n).map (fun j=>Value.int kk (f j))).set i.toNat (.int kk y)=(List.range n).map (fun j=>Value.int kk (nC f i y j)):=by
 obtain⟨q,rfl⟩:∃q:Nat,i=(q:Int):=⟨i.toNat,by omega⟩;rw[mh n f q y (fun c:Int=>Value.int kk c) (by omega)];simp
theorem wB{q b off:Nat}{us:List Value}{T:TypeId}{t:TypeId}{x y:Operand}{cs':List (CV S)}{gh:Gh}{a:Act}(ho:o.op=.store t x y)(h1:g.bk q=some gh)(h2:gh.g=some b)(hO:Ow m [bB.box b us.toArray T])(hx:a.eval x=.pointer (some ⟨b,off,none⟩))
 (hag:(dw P t).map (·.2)=some (a.eval y).cells.size) (hfit:off+(a.eval y).cells.size<=us.length) (hone:∀u∈(a.eval y).cells.toList,u.oneCell'=true)
 (hc:bT K g m cs' (us.take off++(a.eval y).cells.toList++us.drop (off+(a.eval y).cells.size))):
 bp P o a m.w fun v w'=>sI K g m ct [] [bB.box b us.toArray T] {v:=AV.dU S,rm:=[q],add:=[(q,.box T cs')]} v w':=by
 refine Ea (v:=a.eval y) (bU a [x,y]) 0 (St.refl hO) ho (by rw[bw a [x,y] (by simp),hx]) (bw a [x,y] (by simp)) rfl hag (by simpa using hfit) (aF.2 hone) fun m' hle hS=>?_
 have hput:putAt us.toArray off (a.eval y).cells.toList=(us.take off++(a.eval y).cells.toList++us.drop (off+(a.eval y).cells.size)).toArray:=by
  unfold putAt;simp
 rw[hput]at hS
 refine⟨m',g,[bB.box b _ T],rfl,by simpa using hS,GE.refl g,rfl,rfl,fun i h=>absurd rfl h,⟨_,[],rfl,⟨gh,b,_,h1,h2,rfl,hc.mono (GE.refl g) hle⟩,rfl⟩,by simp[AV.dU,bu,b6,undef]⟩
theorem vk(hT:cu P K tt){t:TypeId}{x y:Operand}(ho:o.op=.store t x y){p:CV S}{av:AV S}(h:sA tb tt t p av ob k=some r):cH P K o [.one p,av] ob ct k r:=by
 have hox:o.op.operands.toList=[x,y]:=by rw[ho];rfl
 unfold sA at h;obtain⟨ti,hti,h'⟩:=aa.1 h;clear h;have h:=h';clear h';obtain⟨xs,hxs,h'⟩:=aa.1 h;clear h;have h:=h';clear h';have hag:=(hT.ty t ti hti).agg;split at h
 . rename_i q off;obtain⟨⟨ver,ao⟩,hq,h'⟩:=aa.1 h;clear h;have h:=h';clear h';split at h
   . rename_i T cs hao;simp only at hao;subst hao;obtain⟨cs',hcs',h'⟩:=aa.1 h;clear h;have h:=h';clear h';refine⟨_,h,by simp,fun g a m Lr Lm hf _ ha hr hm hO=>?_⟩;simp only[pick,dg]at hr;subst hr;obtain⟨e,rfl,hoo,gh',b',us,j1,j2,rfl,j4⟩:=cb hm hq;rw[hox]at ha;obtain⟨hv,hw⟩:=cN ha;simp only[bu,bt]at hv;obtain⟨gh,b,k1,k2,k3⟩:=hv;rw[k1]at j1;have e1:=ar j1;subst e1;rw[k2]at j2;have e2:=ar j2;subst e2;have hx:a.eval x=.pointer (some ⟨b,off,none⟩):=by simpa using k3
     have hcl:=ko hxs hw;obtain⟨q1,q2,q3⟩:=yD hcs' hcl j4;have q1':(a.eval y).cells.size=ti.size:=by simpa using q1
     exact wB ho k1 k2 (by simpa using hO) hx (by rw[hag,q1'];rfl) (by rw[q1'];exact q2) (qf hcl) (by rw[q1'];exact q3)
   . cases h
 . rename_i q ver0 c z j off;obtain⟨⟨ver,ao⟩,hq,h'⟩:=aa.1 h;clear h;have h:=h';clear h';split at h
   . rename_i hver;have hver:=af hver;simp only at hver;subst hver;split at h
     . rename_i e c' full l hao;simp only at hao;subst hao;obtain⟨cs',hcs',h'⟩:=aa.1 h;clear h;have h:=h';clear h';obtain⟨u',hu',h'⟩:=aa.1 h;clear h;have h:=h';clear h';refine⟨_,h,by simp,fun g a m Lr Lm hf _ ha hr hm hO=>?_⟩;simp only[pick,dg]at hr;subst hr;obtain⟨en,rfl,hoo,gh',cs,j1,j2,rfl,j4,j5⟩:=cb hm hq;rw[hox]at ha;obtain⟨hv,hw⟩:=cN ha;simp only[bu,bt]at hv;obtain⟨gh,b,p,e',f,l',en',k1,k2,k3,k4,k5⟩:=hv;rw[k1]at j1;have e1:=ar j1;subst e1;rw[hoo]at k4;have e2:=ar k4;simp only[ax]at e2;obtain⟨e2,_⟩:=e2;cases e2;obtain⟨jn,rfl,hj⟩:=mY k5;have hjl:jn<l'.length:=(List.getElem?_eq_some_iff.1 hj).1;have hy:l'[jn]=z:=(List.getElem?_eq_some_iff.1 hj).2;obtain⟨b',p',ecs,hg,had,hel⟩:=j4.elem (bK K c).pos hjl;rw[aP,had]at k2;cases k2;have hx:a.eval x=.pointer (some ⟨b,p+off,none⟩):=by simpa using k3
       have hrel:=hel.rel;rw[hy]at hrel;have hcl:=ko hxs hw;obtain⟨q1,q2,q3⟩:=yD hcs' hcl (vV (g:=g) hrel);have q1':(a.eval y).cells.size=ti.size:=by simpa using q1
       have hr':∀m',Le m m'->RK K c m' u' (ecs.take off++(a.eval y).cells.toList++ecs.drop (off+(a.eval y).cells.size)):=fun m' hle=>by
        rw[q1'];exact nr hu' (q3.mono (GE.refl g) hle)
       have hO':Ow m [bB.arr gh.g cs e]:=by simpa using hO
       cases full with
       |false=>
        refine Ib (bK K c) hg hel (bU a [x,y]) 0 (St.refl hO') ho (by rw[bw a [x,y] (by simp),hx]) (bw a [x,y] (by simp)) rfl (by rw[hag,q1'];rfl) (aF.2 (qf hcl)) (by rw[q1',<- hel.len];simpa using q2) u' hr' fun m' cs2 hle hS hA=>?_
        refine⟨m',g,[bB.arr gh.g cs2 e],rfl,by simpa using hS,GE.refl g,rfl,rfl,fun i h=>absurd rfl h,⟨_,[],rfl,⟨gh,cs2,k1,by rw[List.length_set];exact j2,rfl,by rw[aP];exact hA,fun h=>by cases h⟩,rfl⟩,by simp[AV.dU,bu,b6,undef]⟩
       |true=>
        obtain⟨hfa,hF⟩:=j5 rfl
        rw[hfa]at hel
        refine Fx hF (bK K c) hg hel (bU a [x,y]) 0 (St.refl hO') ho (by rw[bw a [x,y] (by simp),hx]) (bw a [x,y] (by simp)) rfl (by rw[hag,q1'];rfl) (aF.2 (qf hcl)) (by rw[q1',<- hel.len];simpa using q2) u' hr' fun m' cs2 hle hS hA=>?_
        refine⟨m',g,[bB.arr gh.g cs2 e],rfl,by simpa using hS,GE.refl g,rfl,rfl,fun i h=>absurd rfl h,⟨_,[],rfl,⟨gh,cs2,k1,by rw[List.length_set];exact j2,rfl,by rw[aP,hfa];exact hA.1,fun _=>⟨hfa,by rw[aP];exact hA⟩⟩,rfl⟩,by simp[AV.dU,bu,b6,undef]⟩
     . cases h
   . cases h
 . rename_i q off n j;obtain⟨⟨ver,ao⟩,hq,h'⟩:=aa.1 h;clear h;have h:=h';clear h';split at h
   . rename_i T cs hao hsz;simp only at hao;subst hao;have hsz:=af hsz;obtain⟨cs1,hcs1,h'⟩:=aa.1 h;clear h;have h:=h';clear h';obtain⟨cs',hcs',h'⟩:=aa.1 h;clear h;have h:=h';clear h';refine⟨_,h,by simp,fun g a m Lr Lm hf _ ha hr hm hO=>?_⟩;simp only[pick,dg]at hr;subst hr;obtain⟨e,rfl,hoo,gh',b',us,j1,j2,rfl,j4⟩:=cb hm hq;rw[hox]at ha;obtain⟨hv,hw⟩:=cN ha;simp only[bu,bt]at hv;obtain⟨gh,b,k1,k2,k3,k4⟩:=hv;rw[k1]at j1;have e1:=ar j1;subst e1;rw[k2]at j2;have e2:=ar j2;subst e2;have hx:a.eval x=.pointer (some ⟨b,off+j.toNat,none⟩):=by simpa using k3
     have hcl:=ko hxs hw;have fin:∀u,(a.eval y).cells.toList=[u]->bT K g m cs' (us.set (off+j.toNat) u)->off+j.toNat<us.length->bp P o a m.w fun v w'=>sI K g m ct [] [bB.box b us.toArray T] {v:=AV.dU S,rm:=[q],add:=[(q,.box T cs')]} v w':=fun u hu hc hlt=>by
      have h1:(a.eval y).cells.size=1:=by have:=congrArg List.length hu;simpa using this
      exact wB ho k1 k2 (by simpa using hO) hx (by rw[hag,h1,hsz];rfl) (by rw[h1];exact hlt) (qf hcl) (by rw[h1,hu,<- oY _ _ _ hlt];exact hc)
     split at hcs'
     . rename_i n' f ws z;split at hcs'
       . rename_i hn;have hn:=af hn;subst hn;have hu:=gV hcl;simp only[bt]at hu;obtain⟨q1,q2⟩:=yE (g:=g) (m:=m) (K:=K) (i:=j.toNat) (u:=.int .u8 (z.toNat:Int)) hcs' hcs1 j4 (by simp only[CV.n];omega) (fun c1 hc=>by simp only[bt]at hc ⊢; rw[hc];exact Ez k4);exact fin _ hu q1 q2
       . cases hcs'
     . rename_i n' kk f ws k' z;split at hcs'
       . rename_i hk hn _;have hn:=af hn;subst hn;subst hk;have hu:=gV hcl;simp only[bt]at hu;obtain⟨q1,q2⟩:=yE (g:=g) (m:=m) (K:=K) (i:=j.toNat) (u:=.int _ z) hcs' hcs1 j4 (by simp only[CV.n];omega) (fun c1 hc=>by simp only[bt]at hc ⊢; rw[hc];exact BA k4);exact fin _ hu q1 q2
       . cases hcs'
     . cases hcs'
   . cases h
 . cases h
end E
end
section
open Go.RowKit G
namespace E
variable {S:Nat->Type}{tb:Tb S}{K:db tb}{P:Program}{o:Oper}{xs:List (AV S)}{ob:List (Nat×Nat×AO S)}{ct:Nat}{γ:Type}{k:ek S->Option γ}{r:γ}{tt:TypeId->Option (TI S)}{g:GG S}{m:Mem}{fa:FA S}
theorem fH(hT:cu P K tt){t:TypeId}{ec:TypeId×Co}(h:dY tt t=some ec):P.underlying t=some (.slice ec.1)/\∃ei,tt ec.1=some ei/\cj P t ec.1 (zeroOf ei) (zK K ec.2) ei.bytes/\0<ei.bytes:=by
 unfold dY at h;obtain⟨i,hi,h⟩:=aa.1 h;split at h
 . rename_i e c hd hc;cases h;have htd:=(hT.ty t i hi).td;rw[hd]at htd;obtain⟨ei,h1,h2,h3⟩:=hT.el t i e c hi hd hc;have hety:=hT.ty e ei h1;refine⟨htd,ei,h1,⟨htd,by rw[<- h2];exact hety.info,?_,(bK K c).pos⟩,h3⟩;rw[<- Array.length_toList,gP hety,hety.len,h2]
 . cases h
theorem jf{v:AV S}{i:Int}{u:Value}(h:idxOf v=some i)(hv:bu K g m v u):∃kk,u=.int kk i:=by
 unfold idxOf at h;split at h
 . rename_i w;obtain⟨⟨kk,x⟩,h1,h2⟩:=ab.1 h;simp only at h2;subst h2;simp only[bu]at hv;exact⟨kk,(lZ h1 hv).1⟩
 . cases h
theorem gF{t:TypeId}{x:Operand}{v:CV S}{av:AV S}(hox:o.op.operands.toList=[x])(h:k {v:=av}=some r)(hrun:∀(g:GG S) (a:Act) (m:Mem),bt K g m v [a.eval x]->bp P o a m.w fun u w'=>w'=m.w/\bu K g m av u):cH P K o [.one v] ob ct k r:=
 ⟨_,h,oH.pure rfl rfl rfl fun g a m ha=>by rw[hox]at ha;have:=cF ha;simp only[bu]at this;exact hrun g a m this⟩
theorem gG{x y:Operand}{v:CV S}{w av:AV S}(hox:o.op.operands.toList=[x,y])(h:k {v:=av}=some r)(hrun:∀(g:GG S) (a:Act) (m:Mem),bt K g m v [a.eval x]->bu K g m w (a.eval y)->bp P o a m.w fun u w'=>w'=m.w/\bu K g m av u):cH P K o [.one v,w] ob ct k r:=
 ⟨_,h,oH.pure rfl rfl rfl fun g a m ha=>by rw[hox]at ha;obtain⟨h1,h2⟩:=cN ha;simp only[bu]at h1;exact hrun g a m h1 h2⟩
theorem l8(hT:cu P K tt){t:TypeId}{x y:Operand}(ho:o.op=.indexAddr t x y){v:CV S}{iv:AV S}{i:Int}(hi:idxOf iv=some i)(h:rK tt t y v i ob k=some r):cH P K o [.one v,iv] ob ct k r:=by
 have hox:o.op.operands.toList=[x,y]:=by rw[ho];rfl
 unfold rK at h;split at h
 . rename_i q off;obtain⟨ti,hti,h'⟩:=aa.1 h;clear h;have h:=h';clear h';have htd:=(hT.ty t ti hti).td;split at h
   . rename_i n e hd;rw[hd]at htd;obtain⟨ei,hei,h'⟩:=aa.1 h;clear h;have h:=h';clear h';split at h
     . rename_i hsz;have hsz:=af hsz;have hes:(P.info? e).map (·.size)=some 1:=by
        obtain⟨inf,h1,_,h3,_⟩:=info_parts (hT.ty e ei hei).info;simp[h1,h3,hsz]
       split at h
       . rename_i kk j;split at h
         . rename_i hj;simp only[al,bg]at hj;refine gG hox h fun g a m hv hw=>?_
           simp only[bt]at hv;obtain⟨gh,b,k1,k2,k3⟩:=hv;have hx:a.eval x=.pointer (some ⟨b,off,none⟩):=by simpa using k3
           refine AU (i:=j) (k:=kk) htd hes hj (bU a [x]) ho (by rw[bw a [x] (by simp),hx]) rfl ⟨rfl,?_⟩;simp only[val,bu,bt];exact⟨gh,b,k1,k2,by rw[Nat.add_comm]⟩
         . cases h
       . obtain⟨u,hu,h'⟩:=aa.1 h;clear h;have h:=h';clear h';have hj:=dG hu;refine gG hox h fun g a m hv hw=>?_
         simp only[bt]at hv;obtain⟨gh,b,k1,k2,k3⟩:=hv;have hx:a.eval x=.pointer (some ⟨b,off,none⟩):=by simpa using k3
         obtain⟨kk,hy⟩:=jf hi hw;refine AU (i:=i) (k:=kk) htd hes hj (bU a [x,y]) ho (by rw[bw a [x,y] (by simp),hx]) (by rw[bw a [x,y] (by simp),hy]) ⟨rfl,?_⟩;simp only[val,bu,bt];exact⟨gh,b,k1,k2,by rw[Nat.add_comm],hj⟩
     . cases h
   . cases h
 . obtain⟨ec,hec,h'⟩:=aa.1 h;clear h;have h:=h';clear h';obtain⟨hu,ei,hei,hE,hb⟩:=fH hT hec;split at h
   . rename_i q _;obtain⟨⟨ver,ao⟩,hq,h'⟩:=aa.1 h;clear h;have h:=h';clear h';split at h
     . rename_i e' c' f l hao;simp only at hao;subst hao;split at h
       . rename_i hc _;subst hc;obtain⟨z,hz,h'⟩:=aa.1 h;clear h;have h:=h';clear h';refine⟨_,h,by simp,fun g a m Lr Lm hf _ ha hr hm hO=>?_⟩;simp only[pick,dg]at hm;subst hm;obtain⟨en,rfl,hoo,gh,cs,j1,j2,rfl,j4,j5⟩:=cb hr hq;rw[hox]at ha;obtain⟨hv,hw⟩:=cN ha;simp only[bu,bt]at hv;obtain⟨gh',k1,k2⟩:=hv;rw[j1]at k1;have e1:=ar k1;subst e1;have hx:a.eval x=.slice gh.ad gh.n gh.cap:=by simpa using k2
         obtain⟨kk,hy⟩:=jf hi hw;obtain⟨jn,rfl,hj⟩:=mY hz;have hjl:jn<l.length:=(List.getElem?_eq_some_iff.1 hj).1;obtain⟨b,p,ecs,hg,hadr,hel⟩:=j4.elem (bK K ec.2).pos hjl;have hbd:(0:Int)<=(jn:Int)/\(jn:Int)<(gh.n:Int):=⟨by omega,by omega⟩;refine bp.val (v:=.pointer (some ⟨b,p,none⟩)) ?_ (sI.pure rfl (by simpa using hO) ?_)
         . cases had:gh.ad with
           |none=>rw[had]at hadr;simp at hadr
           |some A=>
            rw[had]at hadr
            simp only[ak,ae]at hadr
            simp only[execOp,ho,hx,hy,had,Instr.indexAt,asIntOf,Sem.run_bind,Sem.run_pure,Result.andThen_ok,run_underlying hu,fU hE,hbd,and_self,if_true,aP,hadr]
         . simp only[bu,bt];exact⟨gh,b,p,e',f,l,_,j1,by rw[aP];exact hadr,by rw[Nat.add_zero],hoo,hz⟩
       . cases h
     . cases h
   . obtain⟨l,hl,h'⟩:=aa.1 h;clear h;have h:=h';clear h';obtain⟨z,hz,h'⟩:=aa.1 h;clear h;have h:=h';clear h';refine gG hox h fun g a m hv hw=>?_
     obtain⟨ad,n,hx,hEl⟩:=gN hl hv;obtain⟨kk,hy⟩:=jf hi hw;refine Pc hE hEl hz (bU a [x,y]) ho (by rw[bw a [x,y] (by simp),hx]) (by rw[bw a [x,y] (by simp),hy]) fun b p cs hR hA=>⟨rfl,?_⟩
     simp only[val,bu,bt];exact⟨b,p,cs,by rw[Nat.add_zero],hR,hA⟩
theorem fI{x:Option Operand}{vs vs':List (AV S)}{i:Option Int}{xs:List Operand}{a:Act}(h:mc x vs=some (i,vs'))(ha:jx K g m a (x.toList++xs) vs):jx K g m a xs vs'/\(∀j,i=some j->∃y kk,x=some y/\a.eval y=.int kk j)/\(i=none->x=none):=by
 cases x with
 |none=>
  simp only[mc,ae,ax]at h
  obtain⟨rfl,rfl⟩:=h
  exact⟨by simpa using ha,fun j h=>(by cases h),fun _=>rfl⟩
 |some y=>
  cases vs with
  |nil=>simp[mc]at h
  |cons v vs=>
   simp only[mc]at h
   obtain⟨j,hj,h⟩:=ab.1 h
   simp only[ax]at h
   obtain⟨rfl,rfl⟩:=h
   simp only[Option.toList_some,List.singleton_append]at ha
   obtain⟨w,r,e,h1,h2⟩:=ha
   cases e
   obtain⟨kk,hy⟩:=jf hj h1
   exact⟨h2,fun j' hj'=>by cases hj';exact⟨y,kk,rfl,hy⟩,fun h=>by cases h⟩
theorem yJ{zv:Value}{bytes:Nat}{t e:TypeId}{x y z:Operand}{α:Type}{R:Mem->α->List Value->Prop}{sz cap:Nat}{ad:Option Addr}{l l':List α}{k k':IntKind}{i:Int}{Kt':Kt}{a:Act}{bF:Value->World->Prop}(hT:cj P t e zv sz bytes)(hE:cz R m sz ad cap l)(hx:ta l i=some l')(hK:Ke a Kt')(ho:o.op=.slice t x none (some y) (some z))(hxx:dZ Kt' x=some (.slice ad l.length cap))(hy:dZ Kt' y=some (.int k i))(hz:dZ Kt' z=some (.int k' i))
 (hp:∀a',cz R m sz a' l'.length l'->bF (.slice a' l'.length l'.length) m.w):bp P o a m.w bF:=by
 obtain⟨j,rfl,hj,rfl⟩:=pK hx
 have hlc:=hE.mD
 have hb1:((0:Int)<=(j:Int)/\(j:Int)<=(cap:Int)):=⟨by omega,by omega⟩
 have hcut:=hE.Jn 0 j j (Nat.zero_le _) hj (Nat.le_refl _) (by omega)
 have hjl:(l.take j).length=j:=by rw[aG];omega
 rw[dX,List.drop_zero,Nat.sub_zero]at hcut
 unfold bp execOp
 have hbj:(Instr.sliceBound (.int k' (j:Int)) cap BoundsCode.slice3Acap).run P m.w=.ok j m.w:=cy (by omega)
 have hbj2:(Instr.sliceBound (.int k (j:Int)) j BoundsCode.slice3B).run P m.w=.ok j m.w:=cy (Nat.le_refl _)
 have hadd:(if j=0 then ad else ad.map (·.add (0*sz)))=ad:=by
  have:=dX ad j sz;unfold cm at this;exact this
 simp only[ho,hK.ev hxx,hK.ev hy,hK.ev hz,Instr.sliceAt,Instr.slice,Instr.sliceBounds,Sem.run_bind,Sem.run_pure,Result.andThen_ok,run_underlying hT.dU,fU hT,ak,Option.map_none,hbj,hbj2,if_true,Option.isSome_some,Nat.sub_zero,hadd]
 have:=hp ad (by rw[hjl];exact hcut)
 rw[hjl]at this
 exact this
theorem EE{b:Option Nat}{c i j s:Nat}(hj:i+j<c):cm (cm (dA b) c i s) (c-i) j s=cm (dA b) c (i+j) s:=by
 unfold cm;by_cases h1:c=i
 . omega
 . by_cases h2:c-i=j
   . omega
   . rw[if_neg h1,if_neg h2,if_neg (by omega)]
     cases b with
     |none=>rfl
     |some b=>simp only[dA,ak,Addr.add_mid,aI,aM]
theorem ok_slice(hT:cu P K tt){t:TypeId}{x:Operand}{lo hi mx:Option Operand}(ho:o.op=.slice t x lo hi mx){v:CV S}{vs va vb vc:List (AV S)}{ilo ihi imx:Option Int}(h1:mc lo vs=some (ilo,va))(h2:mc hi va=some (ihi,vb))(h3:mc mx vb=some (imx,vc))
 (h:pL tt t v ilo ihi imx ob ct k=some r):cH P K o (.one v::vs) ob ct k r:=by
 have hox:o.op.operands.toList=x::(lo.toList++(hi.toList++(mx.toList++[]))):=by rw[ho];simp[Op.operands]
 have opn:∀{g:GG S} {m:Mem} {a:Act},jx K g m a o.op.operands.toList (.one v::vs)->bt K g m v [a.eval x]/\((∀j,ilo=some j->∃y kk,lo=some y/\a.eval y=.int kk j)/\(ilo=none->lo=none))/\((∀j,ihi=some j->∃y kk,hi=some y/\a.eval y=.int kk j)/\(ihi=none->hi=none))/\((∀j,imx=some j->∃y kk,mx=some y/\a.eval y=.int kk j)/\(imx=none->mx=none)):=fun{g m a} ha=>by
  rw[hox]at ha;obtain⟨w,r,e,k1,k2⟩:=ha;cases e;simp only[bu]at k1;obtain⟨k3,k4⟩:=fI h1 k2;obtain⟨k5,k6⟩:=fI h2 k3;obtain⟨k7,k8⟩:=fI h3 k5;exact⟨k1,k4,k6,k8⟩
 unfold pL at h
 obtain⟨ec,hec,h'⟩:=aa.1 h
 clear h;have h:=h';clear h'
 obtain⟨hu,ei,hei,hE,hb⟩:=fH hT hec
 split at h
 . rename_i q
   obtain⟨⟨ver,ao⟩,hq,h'⟩:=aa.1 h
   clear h;have h:=h';clear h'
   split at h
   . rename_i e' c' f l i hao
     simp only at hao;subst hao
     split at h
     . rename_i hc _
       subst hc
       obtain⟨l',hl',h'⟩:=aa.1 h
       clear h;have h:=h';clear h'
       refine⟨_,h,by simp,fun g a m Lr Lm hf _ ha hr hm hO=>?_⟩
       simp only[pick,dg]at hr
       subst hr
       obtain⟨en,rfl,hoo,gh,cs,j1,j2,rfl,j4,j5⟩:=cb hm hq
       obtain⟨hv,⟨hlo,_⟩,⟨_,hhi⟩,⟨_,hmx⟩⟩:=opn ha
       obtain⟨y,kk,rfl,hy⟩:=hlo _ rfl
       obtain rfl:=hhi rfl
       obtain rfl:=hmx rfl
       simp only[bt]at hv
       obtain⟨gh',k1,k2⟩:=hv
       rw[j1]at k1;have e1:=ar k1;subst e1
       have hx:a.eval x=.slice gh.ad l.length gh.cap:=by rw[j2];simpa using k2
       have hO':Ow m [bB.arr gh.g cs e']:=by simpa using hO
       refine Cw hE j4 hl' (bU a [x,y]) ho (by rw[bw a [x,y] (by simp),hx]) (by rw[bw a [x,y] (by simp),hy]) fun a' c2 hA=>?_
       have hge:=GG.dK (x:=⟨gh.g,a',c2,l'.length,default⟩) (hf (ct+1) (by omega) (by omega)).1
       refine⟨m,g.eV (ct+1) ⟨gh.g,a',c2,l'.length,default⟩,[bB.arr gh.g cs e'],rfl,by simpa using St.refl hO',hge,rfl,rfl,GG.df,⟨_,[],rfl,⟨_,cs,GG.bL,rfl,rfl,hA,fun h=>by cases h⟩,rfl⟩,?_⟩
       simp only[bu,bt]
       exact⟨_,GG.bL,rfl⟩
     . cases h
   . rename_i e' c' full l j hao
     simp only at hao;subst hao
     split at h
     . rename_i hc _
       subst hc
       obtain⟨l',hl',h'⟩:=aa.1 h
       clear h;have h:=h';clear h'
       refine⟨_,h,by simp,fun g a m Lr Lm hf _ ha hr hm hO=>?_⟩
       simp only[pick,dg]at hr
       subst hr
       obtain⟨en,rfl,hoo,gh,cs,j1,j2,rfl,j4,j5⟩:=cb hm hq
       obtain⟨hv,⟨_,hlo⟩,⟨hhi,_⟩,⟨_,hmx⟩⟩:=opn ha
       obtain⟨y,kk,rfl,hy⟩:=hhi _ rfl
       obtain rfl:=hlo rfl
       obtain rfl:=hmx rfl
       simp only[bt]at hv
       obtain⟨gh',k1,k2⟩:=hv
       rw[j1]at k1;have e1:=ar k1;subst e1
       have hx:a.eval x=.slice gh.ad l.length gh.cap:=by rw[j2];simpa using k2
       have hO':Ow m [bB.arr gh.g cs e']:=by simpa using hO
       refine H9 hE j4 hl' (bU a [x,y]) ho (by rw[bw a [x,y] (by simp),hx]) (by rw[bw a [x,y] (by simp),hy]) fun hA=>?_
       have hge:=GG.dK (x:=⟨gh.g,gh.ad,gh.cap,l'.length,default⟩) (hf (ct+1) (by omega) (by omega)).1
       refine⟨m,g.eV (ct+1) ⟨gh.g,gh.ad,gh.cap,l'.length,default⟩,[bB.arr gh.g cs e'],rfl,by simpa using St.refl hO',hge,rfl,rfl,GG.df,⟨_,[],rfl,⟨_,cs,GG.bL,rfl,rfl,hA,fun h=>⟨(j5 h).1,by rw[<- (j5 h).1];exact hA,(j5 h).2.2⟩⟩,rfl⟩,?_⟩
       simp only[bu,bt]
       exact⟨_,GG.bL,rfl⟩
     . cases h
   . cases h
 . rename_i q c n
   split at h
   . rename_i j
     split at h
     . rename_i hj
       have hj:=aX hj
       subst hj
       refine⟨_,h,by simp,fun g a m Lr Lm hf _ ha hr hm hO=>?_⟩
       simp only[pick,dg]at hm
       subst hm
       obtain⟨hv,⟨_,hlo⟩,⟨hhi,_⟩,⟨_,hmx⟩⟩:=opn ha
       obtain⟨y,kk,rfl,hy⟩:=hhi _ rfl
       obtain rfl:=hlo rfl
       obtain rfl:=hmx rfl
       simp only[bt]at hv
       obtain⟨gh,b,k1,k2,k3,k4,k5⟩:=hv
       have hx:a.eval x=.slice (dA gh.g) n.toNat gh.cap:=by simpa using k3
       refine s7 hE (bU a [x,y]) ho (by rw[bw a [x,y] (by simp),hx]) (by rw[bw a [x,y] (by simp),hy]) ?_
       refine⟨m,g,[],rfl,by simpa using St.refl hO,GE.refl g,rfl,rfl,fun i h=>absurd rfl h,rfl,?_⟩
       simp only[bu,bt]
       exact⟨gh,[],dA gh.g,k1,rfl,by rw[k2];exact cz.Gx m k5,by rw[k2];exact cz.Gx m k5,k4,fun _=>(dX _ _ _).symm⟩
     . cases h
   . cases h
 . split at h
   . rename_i hn
     simp only[al]at hn
     split at h
     . rename_i hj
       have hj:=aX hj
       subst hj
       cases v<;>first|(cases hn.1;done)|skip
       refine⟨_,h,oH.pure rfl rfl rfl fun g a m ha=>?_⟩
       obtain⟨hv,⟨_,hlo⟩,⟨hhi,_⟩,⟨_,hmx⟩⟩:=opn ha
       obtain⟨y,kk,rfl,hy⟩:=hhi _ rfl
       have e1:ilo=none:=by cases ilo<;>cases imx<;>first|rfl|(cases hn.2;done)
       have e2:imx=none:=by cases ilo<;>cases imx<;>first|rfl|(cases hn.2;done)
       obtain rfl:=hlo e1
       obtain rfl:=hmx e2
       simp only[bt]at hv
       have hx:a.eval x=.slice none 0 0:=by simpa using hv
       refine s7 hE (bU a [x,y]) ho (by rw[bw a [x,y] (by simp),hx]) (by rw[bw a [x,y] (by simp),hy]) ⟨rfl,?_⟩
       simp only[val,bu,bt]
     . cases h
   . obtain⟨l,hl,h'⟩:=aa.1 h
     clear h;have h:=h';clear h'
     split at h
     . rename_i i
       obtain⟨l',hl',h'⟩:=aa.1 h
       clear h;have h:=h';clear h'
       have gen:k (val (.sl ec.2 l'))=some r->cH P K o (.one v::vs) ob ct k r:=fun h=>by
        refine⟨_,h,oH.pure rfl rfl rfl fun g a m ha=>?_⟩;obtain⟨hv,⟨hlo,_⟩,⟨_,hhi⟩,⟨_,hmx⟩⟩:=opn ha;obtain⟨y,kk,rfl,hy⟩:=hlo _ rfl;obtain rfl:=hhi rfl;obtain rfl:=hmx rfl;obtain⟨ad,n,hx,hEl⟩:=gN hl hv;refine Fu hE hEl hl' (bU a [x,y]) ho (by rw[bw a [x,y] (by simp),hx]) (by rw[bw a [x,y] (by simp),hy]) fun a' c2 hA=>⟨rfl,?_⟩
        simp only[val,bu,bt];exact⟨a',c2,rfl,hA⟩
       unfold Oo at h
       split at h
       . rename_i q d l1 _ _
         split at h
         . rename_i hd _
           subst hd
           have e0:l=l1:=by
            simp only[KM,Fa]at hl;split at hl
            . cases hl;rfl
            . cases hl
           subst e0
           refine⟨_,h,oH.pure rfl rfl rfl fun g a m ha=>?_⟩
           obtain⟨hv,⟨hlo,_⟩,⟨_,hhi⟩,⟨_,hmx⟩⟩:=opn ha
           obtain⟨y,kk,rfl,hy⟩:=hlo _ rfl
           obtain rfl:=hhi rfl
           obtain rfl:=hmx rfl
           simp only[bt]at hv
           obtain⟨gh,l0,ad,k1,k2,hEl,k3,k4,k5⟩:=hv
           have hx:a.eval x=.slice ad l.length (gh.cap-l0.length):=by simpa using k2
           obtain⟨j,hij,hj,rfl⟩:=qW hl'
           have hcap:(l0++l).length<=gh.cap:=k3.mD.2.2
           refine sZ hE hEl j hij (bU a [x,y]) ho (by rw[bw a [x,y] (by simp),hx]) (by rw[bw a [x,y] (by simp),hy]) hj ⟨rfl,?_⟩
           simp only[val,bu,bt]
           have hl2:(l0++l.take j).length=l0.length+j:=by rw[ay,aG,Nat.min_eq_left hj]
           refine⟨gh,l0++l.take j,cm ad (gh.cap-l0.length) j (zK K ec.2),k1,?_,?_,by rw[az,List.take_append_drop];exact k3,by rw[az,List.take_append_drop];exact k4,fun hlt=>?_⟩
           . rw[hl2,Nat.sub_sub]
           . rw[hl2,<- Nat.sub_sub];exact hEl.from j hj
           . rw[hl2]at hlt ⊢
             rw[k5 (by omega),EE hlt]
         . exact gen h
       . exact gen h
     . rename_i i
       obtain⟨l',hl',h'⟩:=aa.1 h
       clear h;have h:=h';clear h'
       refine⟨_,h,oH.pure rfl rfl rfl fun g a m ha=>?_⟩
       obtain⟨hv,⟨_,hlo⟩,⟨hhi,_⟩,⟨_,hmx⟩⟩:=opn ha
       obtain⟨y,kk,rfl,hy⟩:=hhi _ rfl
       obtain rfl:=hlo rfl
       obtain rfl:=hmx rfl
       obtain⟨ad,n,hx,hEl⟩:=gN hl hv
       refine KD hE hEl hl' (bU a [x,y]) ho (by rw[bw a [x,y] (by simp),hx]) (by rw[bw a [x,y] (by simp),hy]) fun a' c2 hA=>⟨rfl,?_⟩
       simp only[val,bu,bt]
       exact⟨a',c2,rfl,hA⟩
     . rename_i i j
       obtain⟨l',hl',h'⟩:=aa.1 h
       clear h;have h:=h';clear h'
       refine⟨_,h,oH.pure rfl rfl rfl fun g a m ha=>?_⟩
       obtain⟨hv,⟨hlo,_⟩,⟨hhi,_⟩,⟨_,hmx⟩⟩:=opn ha
       obtain⟨y,kk,rfl,hy⟩:=hlo _ rfl
       obtain⟨z,kk',rfl,hz⟩:=hhi _ rfl
       obtain rfl:=hmx rfl
       obtain⟨ad,n,hx,hEl⟩:=gN hl hv
       refine H8 hE hEl hl' (bU a [x,y,z]) ho (by rw[bw a [x,y,z] (by simp),hx]) (by rw[bw a [x,y,z] (by simp),hy]) (by rw[bw a [x,y,z] (by simp),hz]) fun a' c2 hA=>⟨rfl,?_⟩
       simp only[val,bu,bt]
       exact⟨a',c2,rfl,hA⟩
     . rename_i j mm
       obtain⟨u,hmj,h'⟩:=aa.1 h
       clear h;have h:=h';clear h'
       have hmj:=dG hmj
       subst hmj
       obtain⟨l',hl',h'⟩:=aa.1 h
       clear h;have h:=h';clear h'
       refine⟨_,h,oH.pure rfl rfl rfl fun g a m ha=>?_⟩
       obtain⟨hv,⟨_,hlo⟩,⟨hhi,_⟩,⟨hmx,_⟩⟩:=opn ha
       obtain⟨y,kk,rfl,hy⟩:=hhi _ rfl
       obtain⟨z,kk',rfl,hz⟩:=hmx _ rfl
       obtain rfl:=hlo rfl
       obtain⟨ad,n,hx,hEl⟩:=gN hl hv
       refine yJ hE hEl hl' (bU a [x,y,z]) ho (by rw[bw a [x,y,z] (by simp),hx]) (by rw[bw a [x,y,z] (by simp),hy]) (by rw[bw a [x,y,z] (by simp),hz]) fun a' hA=>⟨rfl,?_⟩
       simp only[val,bu,bt]
       exact⟨a',rfl,hA⟩
     . cases h
theorem Cs{lo hi:Option Value}{w:World}{n:Nat}{i j:Int}(hl:(lo=none/\i=0)\/∃kk,lo=some (.int kk i))(hh:(hi=none/\j=n)\/∃kk,hi=some (.int kk j))(h:0<=i/\i<=j/\j<=(n:Int)):
 (Instr.sliceBounds false n n lo hi none).run P w=.ok (i.toNat,j.toNat,n) w:=by
 obtain⟨i,rfl⟩:∃z:Nat,i=(z:Int):=⟨i.toNat,by omega⟩
 obtain⟨j,rfl⟩:∃z:Nat,j=(z:Int):=⟨j.toNat,by omega⟩
 have h1:i<=j:=by omega
 have h2:j<=n:=by omega
 rcases hl with⟨rfl,hi0⟩|⟨kk,rfl⟩
 . have:i=0:=by omega
   subst this
   rcases hh with⟨rfl,hj0⟩|⟨kk,rfl⟩
   . have:j=n:=by omega
     subst this
     simp[Instr.sliceBounds]
   . simp[Instr.sliceBounds,cy h2]
 . rcases hh with⟨rfl,hj0⟩|⟨kk',rfl⟩
   . have:j=n:=by omega
     subst this
     simp[Instr.sliceBounds,cy h1]
   . simp[Instr.sliceBounds,cy h1,cy h2]
theorem Ax(hT:cu P K tt){t:TypeId}{x:Operand}{lo hi mx:Option Operand}(ho:o.op=.slice t x lo hi mx){q off:Nat}{vs va vb vc:List (AV S)}{ilo ihi imx:Option Int}(h1:mc lo vs=some (ilo,va))(h2:mc hi va=some (ihi,vb))(h3:mc mx vb=some (imx,vc))
 (h:oz tt t q off ilo ihi imx k=some r):cH P K o (.one (.ptr q off)::vs) ob ct k r:=by
 have hox:o.op.operands.toList=x::(lo.toList++(hi.toList++(mx.toList++[]))):=by rw[ho];simp[Op.operands]
 unfold oz at h
 obtain⟨ti,hti,h'⟩:=aa.1 h
 clear h;have h:=h';clear h'
 have htd:=(hT.ty t ti hti).td
 split at h
 . rename_i n e hd
   rw[hd]at htd
   obtain⟨ei,hei,h'⟩:=aa.1 h
   clear h;have h:=h';clear h'
   obtain⟨inf,g1,g2,g3,g4⟩:=info_parts (hT.ty e ei hei).info
   split at h
   . rename_i hs
     have hs:=af hs
     obtain⟨u,hc,h'⟩:=aa.1 h
     clear h;have h:=h';clear h'
     have hc:=dG hc
     refine⟨_,h,oH.pure rfl rfl rfl fun g a m ha=>?_⟩
     rw[hox]at ha
     obtain⟨w,r,e0,k1,k2⟩:=ha
     cases e0
     simp only[bu,bt]at k1
     obtain⟨k3,k4,k4'⟩:=fI h1 k2
     obtain⟨k5,k6,k6'⟩:=fI h2 k3
     obtain⟨_,_,k8⟩:=fI h3 k5
     obtain rfl:=k8 rfl
     obtain⟨gh,b,l1,l2,l3⟩:=k1
     have hx:a.eval x=.pointer (some ⟨b,off,none⟩):=by simpa using l3
     have hb:(Instr.sliceBounds false n n (lo.map a.eval) (hi.map a.eval) none).run P m.w=.ok ((ilo.getD 0).toNat,(ihi.getD n).toNat,n) m.w:=by
      refine Cs ?_ ?_ ⟨hc.1,hc.2.2.1,hc.2.2.2⟩
      . cases ilo with
        |none=>obtain rfl:=k4' rfl;exact .inl ⟨rfl,rfl⟩
        |some i=>obtain⟨y,kk,rfl,hy⟩:=k4 _ rfl;exact .inr ⟨kk,by simp[hy]⟩
      . cases ihi with
        |none=>obtain rfl:=k6' rfl;exact .inl ⟨rfl,rfl⟩
        |some i=>obtain⟨y,kk,rfl,hy⟩:=k6 _ rfl;exact .inr ⟨kk,by simp[hy]⟩
     generalize ilo.getD 0=i at*
     generalize ihi.getD n=j at*
     have hu:P.underlying t=some (.array n e):=htd
     have hne:¬ n=i.toNat:=by omega
     have hs1:inf.size=1:=by rw[g3,hs]
     have hrun:(Instr.sliceAt t (.pointer (some ⟨b,off,none⟩)) (lo.map a.eval) (hi.map a.eval) none).run P m.w=.ok (.slice (some ⟨b,off+i.toNat,none⟩) (j.toNat-i.toNat) (n-i.toNat)) m.w:=by
      simp[Instr.sliceAt,run_underlying hu,Instr.sureAddr,hb,sizeOf,typeInfo,g1,hs1,hne,Addr.add_mid]
     refine bp.val (v:=.slice (some ⟨b,off+i.toNat,none⟩) (j.toNat-i.toNat) (n-i.toNat)) ?_ ⟨rfl,?_⟩
     . simp[execOp,ho,hx,hrun]
     . simp only[val,bu,bt]
       exact⟨gh,b,l1,l2,by rw[show(j-i).toNat=j.toNat-i.toNat by omega],hc.1,hc.2.2.1,hc.2.2.2⟩
   . cases h
 . cases h
theorem Fb(hT:cu P K tt){t:TypeId}{x:Operand}{lo hi mx:Option Operand}(ho:o.op=.slice t x lo hi mx){q off:Nat}{vs va vb vc:List (AV S)}{ilo ihi imx:Option Int}(h1:mc lo vs=some (ilo,va))(h2:mc hi va=some (ihi,vb))(h3:mc mx vb=some (imx,vc))
 (h:oy tt t q off ilo ihi imx ob k=some r):cH P K o (.one (.ptr q off)::vs) ob ct k r:=by
 have hox:o.op.operands.toList=x::(lo.toList++(hi.toList++(mx.toList++[]))):=by rw[ho];simp[Op.operands]
 unfold oy at h
 obtain⟨ti,hti,h'⟩:=aa.1 h
 clear h;have h:=h';clear h'
 have htd:=(hT.ty t ti hti).td
 split at h
 . rename_i n e hd
   rw[hd]at htd
   obtain⟨ei,hei,h'⟩:=aa.1 h
   clear h;have h:=h';clear h'
   obtain⟨⟨ver,ao⟩,hq,h'⟩:=aa.1 h
   clear h;have h:=h';clear h'
   obtain⟨inf,g1,g2,g3,g4⟩:=info_parts (hT.ty e ei hei).info
   split at h
   . rename_i T n1 f hao
     simp only at hao;subst hao
     split at h
     . rename_i hc
       simp only[al]at hc
       obtain⟨hn,hs,hn1,hn2⟩:=hc
       have hn:=af hn
       subst hn
       have hs:=af hs
       have hn1:=aj hn1
       have hn2:=aj hn2
       refine⟨_,h,by simp,fun g a m Lr Lm hf _ ha hr hm hO=>?_⟩
       simp only[pick,dg]at hr
       subst hr
       obtain⟨en,rfl,hoo,gh',b',us,j1,j2,rfl,j4⟩:=cb hm hq
       rw[hox]at ha
       obtain⟨w,r,e0,k1,k2⟩:=ha
       cases e0
       simp only[bu,bt]at k1
       obtain⟨k3,k4,k4'⟩:=fI h1 k2
       obtain⟨k5,k6,k6'⟩:=fI h2 k3
       obtain⟨_,_,k8⟩:=fI h3 k5
       obtain rfl:=k8 rfl
       obtain rfl:=k6' rfl
       obtain rfl:=k4' rfl
       obtain⟨gh,b,l1,l2,l3⟩:=k1
       rw[l1]at j1;have e1:=ar j1;subst e1
       rw[l2]at j2;have e2:=ar j2;subst e2
       have hx:a.eval x=.pointer (some ⟨b,0,none⟩):=by simpa using l3
       have hcs:=gV j4
       simp only[bt]at hcs
       have hb:(Instr.sliceBounds false n1 n1 none none none).run P m.w=.ok (0,n1,n1) m.w:=by simp[Instr.sliceBounds]
       have hu:P.underlying t=some (.array n1 e):=htd
       have hne:¬ n1=0:=by omega
       have hs1:inf.size=1:=by rw[g3,hs]
       have hrun:(Instr.sliceAt t (.pointer (some ⟨b,0,none⟩)) none none none).run P m.w=.ok (.slice (some ⟨b,0,none⟩) n1 n1) m.w:=by
        simp[Instr.sliceAt,run_underlying hu,Instr.sureAddr,hb,sizeOf,typeInfo,g1,hs1,hne,Addr.add_mid]
       have hS:St (bq [bB.box b us.toArray T]) m m [bB.box b us.toArray T]:=St.refl (by simpa using hO)
       have hlen:(tZ (α:=UInt8) n1 f).length=n1:=by simp[tZ]
       have hA:dE oL m 1 (some b) us.toArray (some ⟨b,0,none⟩) n1 (tZ n1 f):=dE.ofBytes (by rw[hlen];exact Nat.le_refl _) (by unfold maxLen;omega) (fun z u hz=>by
        have hzl:z<n1:=by rw[<- hlen];exact(List.getElem?_eq_some_iff.1 hz).1
        unfold tZ at hz;rw[List.getElem?_map,List.getElem?_range hzl]at hz;cases hz;rw[aI,List.getElem?_toArray,hcs,List.getElem?_map,List.getElem?_range hzl];rfl) (by rw[hcs];simp)
       obtain⟨m',r1,r2,r3,r4⟩:=St.wJ Cq hS.toArr hA
       have hst:(execOp a.eval o).run P m.w=.ok (.value (.slice (some ⟨b,0,none⟩) n1 n1)) m.w:=by simp[execOp,ho,hx,hrun]
       refine bp.val (v:=.slice (some ⟨b,0,none⟩) n1 n1) hst ?_
       refine⟨m',g,[],r1,by simpa using r3,GE.refl g,rfl,rfl,fun i h=>absurd rfl h,rfl,?_⟩
       simp only[bu,bt]
       exact⟨_,_,by exact congrArg (fun z=>[Value.slice (some ⟨b,0,none⟩) z n1]) hlen.symm,r4⟩
     . cases h
   . cases h
 . cases h
theorem Ft{a:Act}{Kt_:Kt}{t e:TypeId}{zv:Value}{sz bytes cap n:Nat}{ad:Option Addr}{x y z:Operand}{k1 k2:IntKind}{i j:Int}{m:Mem}{bF:Value->World->Prop}(hT:cj P t e zv sz bytes)(hi:0<=i/\i<=j/\j<=(n:Int))(hc:n<=cap)(hK:Ke a Kt_)(ho:o.op=.slice t x (some y) (some z) none)
 (hxx:dZ Kt_ x=some (.slice ad n cap)) (hy:dZ Kt_ y=some (.int k1 i)) (hz:dZ Kt_ z=some (.int k2 j)) (hp:bF (.slice (cm ad cap i.toNat sz) (j.toNat-i.toNat) (cap-i.toNat)) m.w):bp P o a m.w bF:=by
 obtain⟨i,rfl⟩:∃q:Nat,i=(q:Int):=⟨i.toNat,by omega⟩
 obtain⟨j,rfl⟩:∃q:Nat,j=(q:Int):=⟨j.toNat,by omega⟩
 have h1:j<=cap:=by omega
 have h2:i<=j:=by omega
 have:=fT (P:=P) (w:=m.w) hT ad n cap i j (some (.int k1 i)) (some (.int k2 j)) (by simp[Instr.sliceBounds,cy h1,cy h2])
 unfold bp execOp
 simp only[ho,ak,Option.map_none,hK.ev hxx,hK.ev hy,hK.ev hz,Sem.run_bind,this,Result.andThen_ok,Sem.run_pure]
 exact hp
theorem Kh(hT:cu P K tt){t:TypeId}{x:Operand}{lo hi mx:Option Operand}(ho:o.op=.slice t x lo hi mx){v:CV S}{vs va vb vc:List (AV S)}{ilo ihi imx:Option Int}(h1:mc lo vs=some (ilo,va))(h2:mc hi va=some (ihi,vb))(h3:mc mx vb=some (imx,vc))
 (h:w9 tt t v ilo ihi imx ob ct k=some r):cH P K o (.one v::vs) ob ct k r:=by
 have hox:o.op.operands.toList=x::(lo.toList++(hi.toList++(mx.toList++[]))):=by rw[ho];simp[Op.operands]
 have opn:∀{g:GG S} {m:Mem} {a:Act},jx K g m a o.op.operands.toList (.one v::vs)->bt K g m v [a.eval x]/\((∀j,ilo=some j->∃y kk,lo=some y/\a.eval y=.int kk j)/\(ilo=none->lo=none))/\((∀j,ihi=some j->∃y kk,hi=some y/\a.eval y=.int kk j)/\(ihi=none->hi=none))/\((∀j,imx=some j->∃y kk,mx=some y/\a.eval y=.int kk j)/\(imx=none->mx=none)):=fun{g m a} ha=>by
  rw[hox]at ha;obtain⟨w,r,e,k1,k2⟩:=ha;cases e;simp only[bu]at k1;obtain⟨k3,k4⟩:=fI h1 k2;obtain⟨k5,k6⟩:=fI h2 k3;obtain⟨k7,k8⟩:=fI h3 k5;exact⟨k1,k4,k6,k8⟩
 unfold w9 at h
 split at h
 . rename_i q
   obtain⟨ec,hec,h'⟩:=aa.1 h
   clear h;have h:=h';clear h'
   obtain⟨hu,ei,hei,hE,hb⟩:=fH hT hec
   obtain⟨⟨ver,ao⟩,hq,h'⟩:=aa.1 h
   clear h;have h:=h';clear h'
   split at h
   . rename_i e' c' f l i hao
     simp only at hao;subst hao
     split at h
     . rename_i hc _
       subst hc
       obtain⟨u,hcc,h'⟩:=aa.1 h
       clear h;have h:=h';clear h'
       have hcc:=dG hcc
       refine⟨_,h,by simp,fun g a m Lr Lm hf _ ha hr hm hO=>?_⟩
       simp only[pick,dg]at hm
       subst hm
       obtain⟨en,rfl,hoo,gh,cs,j1,j2,rfl,j4,j5⟩:=cb hr hq
       obtain⟨hv,⟨hlo,_⟩,⟨_,hhi⟩,⟨_,hmx⟩⟩:=opn ha
       obtain⟨y,kk,rfl,hy⟩:=hlo _ rfl
       obtain rfl:=hhi rfl
       obtain rfl:=hmx rfl
       simp only[bt]at hv
       obtain⟨gh',k1,k2⟩:=hv
       rw[j1]at k1;have e1:=ar k1;subst e1
       have hx:a.eval x=.slice gh.ad gh.n gh.cap:=by simpa using k2
       have hn:=j4.mD.2.2
       have hi2:0<=i/\i<=(gh.n:Int):=by omega
       have hn2:gh.n<=gh.cap:=by omega
       refine Fv (ad:=gh.ad) (cap:=gh.cap) (n:=gh.n) (i:=i) (k:=kk) hE hi2 hn2 (bU a [x,y]) ho (by rw[bw a [x,y] (by simp),hx]) (by rw[bw a [x,y] (by simp),hy]) ?_
       refine⟨m,g,[],rfl,by simpa using St.refl hO,GE.refl g,rfl,rfl,fun i h=>absurd rfl h,rfl,?_⟩
       simp only[bu,bt]
       refine⟨gh,j1,?_,by omega,by omega,by omega⟩
       rw[show((l.length:Int)-i).toNat=gh.n-i.toNat by omega]
     . cases h
   . rename_i e' c' f l i j hao
     simp only at hao;subst hao
     split at h
     . rename_i hc _
       subst hc
       obtain⟨u,hcc,h'⟩:=aa.1 h
       clear h;have h:=h';clear h'
       have hcc:=dG hcc
       refine⟨_,h,by simp,fun g a m Lr Lm hf _ ha hr hm hO=>?_⟩
       simp only[pick,dg]at hm
       subst hm
       obtain⟨en,rfl,hoo,gh,cs,j1,j2,rfl,j4,j5⟩:=cb hr hq
       obtain⟨hv,⟨hlo,_⟩,⟨hhi,_⟩,⟨_,hmx⟩⟩:=opn ha
       obtain⟨y,kk,rfl,hy⟩:=hlo _ rfl
       obtain⟨z,kk',rfl,hz⟩:=hhi _ rfl
       obtain rfl:=hmx rfl
       simp only[bt]at hv
       obtain⟨gh',k1,k2⟩:=hv
       rw[j1]at k1;have e1:=ar k1;subst e1
       have hx:a.eval x=.slice gh.ad gh.n gh.cap:=by simpa using k2
       have hn:=j4.mD.2.2
       have hi2:0<=i/\i<=j/\j<=(gh.n:Int):=by omega
       have hn2:gh.n<=gh.cap:=by omega
       refine Ft (ad:=gh.ad) (cap:=gh.cap) (n:=gh.n) (i:=i) (j:=j) hE hi2 hn2 (bU a [x,y,z]) ho (by rw[bw a [x,y,z] (by simp),hx]) (by rw[bw a [x,y,z] (by simp),hy]) (by rw[bw a [x,y,z] (by simp),hz]) ?_
       refine⟨m,g,[],rfl,by simpa using St.refl hO,GE.refl g,rfl,rfl,fun i h=>absurd rfl h,rfl,?_⟩
       simp only[bu,bt]
       refine⟨gh,j1,?_,by omega,by omega,by omega⟩
       rw[show(j-i).toNat=j.toNat-i.toNat by omega]
     . cases h
   . cases h
 . exact ok_slice hT ho h1 h2 h3 h
theorem KN{q:Nat}{s:CV S}{l x:List UInt8}(h:NB q s l=some x):(∃off n,s=.pt q .u8 off n/\x=(l.drop off.toNat).take n.toNat)\/KM .u8 s=some x:=by
 cases s with
 |pt o' c off n=>
  left
  unfold NB at h
  simp only at h
  split at h
  . rename_i hc hq _
    obtain rfl:=af hq
    subst hc
    exact⟨off,n,rfl,(ar h).symm⟩
  . cases h
 |_=>exact .inr h
theorem vx:∀{o:Nat} {x:CV S} {vs ws vs1:List (CV S)} {v0:CV S} {cs:List Value},pG o x vs=some ws->cutAt o vs=some (v0::vs1)->bT K g m vs cs->∃pre c1 post,cs=pre++c1++post/\pre.length=o/\bt K g m v0 c1/\∀(g':GG S) (m':Mem),GE g g'->Le m m'->∀c2,bt K g' m' x c2->bT K g' m' ws (pre++c2++post)
 |0,x,[],_,_,_,_,h,_,_=>by simp[pG]at h
 |0,x,v::vs,ws,vs1,v0,cs,h,hc,hv=>by
  simp only[pG,ae]at h;subst h;simp only[cutAt,ae,a6]at hc;obtain⟨rfl,rfl⟩:=hc;obtain⟨c1,c2,rfl,h1,h2⟩:=hv;exact⟨[],c1,c2,by simp,rfl,h1,fun g' m' hg hm c3 h3=>⟨c3,c2,by simp,h3,h2.mono hg hm⟩⟩
 |o+1,x,[],_,_,_,_,h,_,_=>by simp[pG]at h
 |o+1,x,v::vs,ws,vs1,v0,cs,h,hc,hv=>by
  unfold pG at h;unfold cutAt at hc;obtain⟨c1,c2,rfl,h1,h2⟩:=hv;have hl:=h1.len;split at h
  . rename_i hle;rw[hle]at hc;have hle:=aj hle;obtain⟨ws',hw,rfl⟩:=ab.1 h;obtain⟨pre,c3,post,rfl,k2,k3,k4⟩:=vx hw hc h2;refine⟨c1++pre,c3,post,by simp,by rw[ay];omega,k3,fun g' m' hg hm c4 h4=>⟨c1,pre++c4++post,by simp,h1.mono hg hm,k4 g' m' hg hm c4 h4⟩⟩
  . cases h
termination_by _ _ vs=>vs.length
theorem uh{pre post:List Value}{n:Nat}{h:Nat->Value}(q:Nat):(pre++(List.range n).map h++post)[q]?=if q<pre.length then pre[q]? else if q<pre.length+n then some (h (q-pre.length))else post[q-pre.length-n]?:=by
 by_cases h1:q<pre.length
 . rw[if_pos h1,az,List.getElem?_append_left h1]
 . rw[if_neg h1];by_cases h2:q<pre.length+n
   . rw[if_pos h2,List.getElem?_append_left (by rw[ay,aL,List.length_range];exact h2),List.getElem?_append_right (by omega),List.getElem?_map,List.getElem?_range (by omega)];rfl
   . rw[if_neg h2,List.getElem?_append_right (by rw[ay,aL,List.length_range];omega),ay,aL,List.length_range,Nat.sub_sub]
theorem Qg{x y:Operand}{a:Act}{Kt_:Kt}{m:Mem}{bF:Value->World->Prop}{t t2 e:TypeId}{zv:Value}{bytes b n i j i2 j2 c c2:Nat}{T:TypeId}{pre post:List Value}{kk:IntKind}{f:Nat->Int}(hT:cj P t e zv 1 bytes)(hK:Ke a Kt_)
 (hO:Ow m [bB.box b (pre++(List.range n).map (fun q=>Value.int kk (f q))++post).toArray T]) (hij:i<=j/\j<=n) (hij2:i2<=j2/\j2<=n)
 (ho:o.op=.call ⟨.builtin .copy,#[x,y],#[t,t2]⟩) (hx:dZ Kt_ x=some (.slice (some ⟨b,pre.length+i,none⟩) (j-i) c)) (hy:dZ Kt_ y=some (.slice (some ⟨b,pre.length+i2,none⟩) (j2-i2) c2))
 (hp:∀m',Le m m'->St (bq [bB.box b (pre++(List.range n).map (fun q=>Value.int kk (f q))++post).toArray T]) m m' [bB.box b (pre++(List.range n).map (fun q=>Value.int kk (Al f i i2 (Nat.min (j2-i2) (j-i)) q))++post).toArray T]->bF (.int .i64 ((Nat.min (j2-i2) (j-i):Nat):Int)) m'.w):bp P o a m.w bF:=by
 generalize hus:(pre++(List.range n).map (fun q=>Value.int kk (f q))++post)=us at*
 have hsz:us.length=pre.length+n+post.length:=by rw[<- hus];simp;omega
 generalize hcnt:Nat.min (j2-i2) (j-i)=cnt at*
 have hc1:cnt<=j2-i2:=by rw[<- hcnt];exact Nat.min_le_left _ _
 have hc2:cnt<=j-i:=by rw[<- hcnt];exact Nat.min_le_right _ _
 generalize hxs:(List.range cnt).map (fun q=>Value.int kk (f (i2+q)))=xs
 have hlen:xs.length=cnt:=by rw[<- hxs];simp
 have hcell:∀k,m.w.cell? ⟨b,k,none⟩=us[k]?:=fun k=>by
  rw[ue (St.refl hO) 0 rfl];simp
 have hf:(Builtin.firstCells 1 cnt (.slice (some ⟨b,pre.length+i2,none⟩) (j2-i2) c2)).run P m.w=.ok xs.toArray m.w:=by
  refine run_firstCells_some (P:=P) m.w 1 cnt ⟨b,pre.length+i2,none⟩ (j2-i2) c2 xs (by rw[hlen,Nat.mul_one]) (fun q u hu=>?_);rw[Addr.add_mid,hcell,<- hus,uh];have hq:q<cnt:=by rw[<- hlen];exact(List.getElem?_eq_some_iff.1 hu).1
  rw[if_neg (by omega),if_pos (by omega)];rw[<- hxs,List.getElem?_map,List.getElem?_range hq]at hu;rw[<- hu,show pre.length+i2+q-pre.length=i2+q by omega];rfl
 have hS0:=St.refl hO
 have hb:=hS0.ud 0 rfl
 have hst:=run_storeCells_at P b (pre.length+i) T xs 0 us.toArray m.w hb (by rw[hlen];simp only[Nat.add_zero,List.size_toArray];omega) (fun u hu=>by
  rw[<- hxs]at hu;obtain⟨c,_,rfl⟩:=List.mem_map.1 hu;rfl)
 simp only[Nat.add_zero]at hst
 have hput:putAt us.toArray (pre.length+i) xs=(pre++(List.range n).map (fun q=>Value.int kk (Al f i i2 cnt q))++post).toArray:=by
  apply Array.ext_getElem?;intro q;rw[nt _ _ _ (by rw[hlen,List.size_toArray];omega),List.getElem?_toArray,List.getElem?_toArray,uh,hlen];by_cases h1:pre.length+i<=q/\q<pre.length+i+cnt
  . rw[if_pos h1,if_neg (by omega),if_pos (by omega),<- hxs,List.getElem?_map,List.getElem?_range (by omega)];unfold Al;rw[if_pos ⟨by omega,by omega⟩,show q-pre.length-i+i2=i2+(q-(pre.length+i))by omega];rfl
  . rw[if_neg h1,<- hus,uh];split
    . rfl
    . split
      . unfold Al;rw[if_neg (by omega)]
      . rfl
 have hw:m.w.grownBy (m.w.setRow b (putAt us.toArray (pre.length+i) xs)) (some b):=⟨rfl,rfl,rfl,by simp,fun k' _ hk'=>setRow_other m.w b k' _ (fun e=>hk' (by rw[e]))⟩
 have hr:=hS0.write hw (by simp) (setRow_heap m.w b us.toArray _ T _ hb)
 have hrun:(Builtin.copy_ #[t,t2] o.type #[.slice (some ⟨b,pre.length+i,none⟩) (j-i) c,.slice (some ⟨b,pre.length+i2,none⟩) (j2-i2) c2]).run P m.w=.ok (.int .i64 (cnt:Nat)) (m.w.setRow b (putAt us.toArray (pre.length+i) xs)):=by
  simp[Builtin.copy_,run_underlying hT.dU,Builtin.lenOf,fU hT,hcnt,hf,hst,putAt,goInt]
 unfold bp execOp
 simp only[ho,resolve,invoke,builtin,Sem.run_bind,Sem.run_pure,Result.andThen_ok,aQ,aD,a7,hK.ev hx,hK.ev hy,hrun]
 rw[<- hput]at hp
 exact hp ⟨_,m.ok⟩ hr.le hr
theorem Pb{x y:Operand}{a:Act}{Kt_:Kt}{m:Mem}{bF:Value->World->Prop}{t t2 e:TypeId}{zv:Value}{bytes b n i j c c2:Nat}{T:TypeId}{pre post:List Value}{f:Nat->UInt8}{l:List UInt8}{a2:Option Addr}(hT:cj P t e zv 1 bytes)(hK:Ke a Kt_)
 (hO:Ow m [bB.box b (pre++(List.range n).map (fun q=>U8 (f q))++post).toArray T]) (hij:i<=j/\j<=n) (hE:cz oL m 1 a2 c2 l)
 (ho:o.op=.call ⟨.builtin .copy,#[x,y],#[t,t2]⟩) (hx:dZ Kt_ x=some (.slice (some ⟨b,pre.length+i,none⟩) (j-i) c)) (hy:dZ Kt_ y=some (.slice a2 l.length c2))
 (hp:∀m',Le m m'->St (bq [bB.box b (pre++(List.range n).map (fun q=>U8 (f q))++post).toArray T]) m m' [bB.box b (pre++(List.range n).map (fun q=>U8 (Om f i (Nat.min l.length (j-i)) l q))++post).toArray T]->bF (.int .i64 ((Nat.min l.length (j-i):Nat):Int)) m'.w):bp P o a m.w bF:=by
 generalize hus:(pre++(List.range n).map (fun q=>U8 (f q))++post)=us at*
 have hsz:us.length=pre.length+n+post.length:=by rw[<- hus];simp;omega
 generalize hcnt:Nat.min l.length (j-i)=cnt at*
 have hc1:cnt<=l.length:=by rw[<- hcnt];exact Nat.min_le_left _ _
 have hc2:cnt<=j-i:=by rw[<- hcnt];exact Nat.min_le_right _ _
 generalize hxs:(l.take cnt).map U8=xs
 have hlen:xs.length=cnt:=by rw[<- hxs];simp;omega
 have hf:(Builtin.firstCells 1 cnt (.slice a2 l.length c2)).run P m.w=.ok xs.toArray m.w:=by rw[<- hxs];exact Ed hE cnt hc1
 have hS0:=St.refl hO
 have hb:=hS0.ud 0 rfl
 have hst:=run_storeCells_at P b (pre.length+i) T xs 0 us.toArray m.w hb (by rw[hlen];simp only[Nat.add_zero,List.size_toArray];omega) (fun u hu=>by
  rw[<- hxs]at hu;obtain⟨c,_,rfl⟩:=List.mem_map.1 hu;rfl)
 simp only[Nat.add_zero]at hst
 have hput:putAt us.toArray (pre.length+i) xs=(pre++(List.range n).map (fun q=>U8 (Om f i cnt l q))++post).toArray:=by
  apply Array.ext_getElem?;intro q;rw[nt _ _ _ (by rw[hlen,List.size_toArray];omega),List.getElem?_toArray,List.getElem?_toArray,uh,hlen];by_cases h1:pre.length+i<=q/\q<pre.length+i+cnt
  . rw[if_pos h1,if_neg (by omega),if_pos (by omega),<- hxs,List.getElem?_map,List.getElem?_take,if_pos (by omega),List.getElem?_eq_getElem (by omega)];unfold Om;rw[if_pos ⟨by omega,by omega⟩,List.getD_eq_getElem?_getD,show q-pre.length-i=q-(pre.length+i)by omega,List.getElem?_eq_getElem (by omega)];rfl
  . rw[if_neg h1,<- hus,uh];split
    . rfl
    . split
      . unfold Om;rw[if_neg (by omega)]
      . rfl
 have hw:m.w.grownBy (m.w.setRow b (putAt us.toArray (pre.length+i) xs)) (some b):=⟨rfl,rfl,rfl,by simp,fun k' _ hk'=>setRow_other m.w b k' _ (fun e=>hk' (by rw[e]))⟩
 have hr:=hS0.write hw (by simp) (setRow_heap m.w b us.toArray _ T _ hb)
 have hcnt':Nat.min (j-i) l.length=cnt:=by rw[<- hcnt];exact Nat.min_comm _ _
 have hrun:(Builtin.copy_ #[t,t2] o.type #[.slice (some ⟨b,pre.length+i,none⟩) (j-i) c,.slice a2 l.length c2]).run P m.w=.ok (.int .i64 (cnt:Nat)) (m.w.setRow b (putAt us.toArray (pre.length+i) xs)):=by
  simp[Builtin.copy_,run_underlying hT.dU,Builtin.lenOf,fU hT,hcnt,hcnt',hf,hst,putAt,goInt]
 unfold bp execOp
 simp only[ho,resolve,invoke,builtin,Sem.run_bind,Sem.run_pure,Result.andThen_ok,aQ,aD,a7,hK.ev hx,hK.ev hy,hrun]
 rw[<- hput]at hp
 exact hp ⟨_,m.ok⟩ hr.le hr
theorem Hv{t t2:TypeId}{ec:TypeId×Co}{zv:Value}{bytes:Nat}(hE:cj P t ec.1 zv (zK K ec.2) bytes){x y:Operand}(ho:o.op=.call ⟨.builtin .copy,#[x,y],#[t,t2]⟩){q off n:Nat}{i j:Int}{s:CV S}(h:xF ec q off n i j s ob k=some r):cH P K o [.one (.px q off n i j),.one s] ob ct k r:=by
 have hox:o.op.operands.toList=[x,y]:=by rw[ho];rfl
 unfold xF at h;split at h
 . rename_i q' off' n' i' j' kk0 hco;split at h
   . rename_i hbe;simp only[al,Nat.beq_eq]at hbe;obtain⟨rfl,rfl,rfl⟩:=hbe;obtain⟨⟨ver,ao⟩,hq,h'⟩:=aa.1 h;clear h;have h:=h';clear h';split at h
     . rename_i T cs hao;simp only at hao;subst hao;obtain⟨cs1,hcs1,h'⟩:=aa.1 h;clear h;have h:=h';clear h';split at h
       . rename_i n1 kk f ws;split at h
         . rename_i hn;have hn:=af hn;subst hn;obtain⟨cs',hcs',h'⟩:=aa.1 h;clear h;have h:=h';clear h';refine⟨_,h,by simp,fun g a m Lr Lm hf _ ha hr hm hO=>?_⟩;simp only[pick,dg]at hr;subst hr;obtain⟨e,rfl,hoo,gh',b',us,j1,j2,rfl,j4⟩:=cb hm hq;rw[hox]at ha;obtain⟨hv,hw⟩:=cN ha;simp only[bu,bt]at hv hw;obtain⟨gh,b,k1,k2,k3,k4,k5,k6⟩:=hv;rw[k1]at j1;have e1:=ar j1;subst e1;rw[k2]at j2;have e2:=ar j2;subst e2;obtain⟨gh2,b2,l1,l2,l3,l4,l5,l6⟩:=hw;rw[k1]at l1;have e1:=ar l1;subst e1;rw[k2]at l2;have e2:=ar l2;subst e2;obtain⟨pre,c1,post,rfl,p2,p3,p4⟩:=vx hcs' hcs1 j4;simp only[bt]at p3;subst p3;subst p2;have hz:zK K ec.2=1:=by rw[hco];rfl
           rw[hz]at hE;obtain⟨i,rfl⟩:∃z:Nat,i=(z:Int):=⟨i.toNat,by omega⟩;obtain⟨j,rfl⟩:∃z:Nat,j=(z:Int):=⟨j.toNat,by omega⟩;obtain⟨i',rfl⟩:∃z:Nat,i'=(z:Int):=⟨i'.toNat,by omega⟩;obtain⟨j',rfl⟩:∃z:Nat,j'=(z:Int):=⟨j'.toNat,by omega⟩;have hx:a.eval x=.slice (some ⟨b,pre.length+i,none⟩) (j-i) (n1-i):=by
            have:((j:Int)-(i:Int)).toNat=j-i:=by omega
            simpa[this]using k3
           have hy:a.eval y=.slice (some ⟨b,pre.length+i',none⟩) (j'-i') (n1-i'):=by
            have:((j':Int)-(i':Int)).toNat=j'-i':=by omega
            simpa[this]using l3
           have hmin:mZ ((j:Int)-(i:Int)) ((j':Int)-(i':Int))=((Nat.min (j'-i') (j-i):Nat):Int):=by
            unfold mZ;rcases Nat.lt_or_ge (j'-i') (j-i)with h|h
            . rw[if_pos (by omega),show Nat.min (j'-i') (j-i)=j'-i' from Nat.min_eq_left (by omega)];omega
            . rw[if_neg (by omega),show Nat.min (j'-i') (j-i)=j-i from Nat.min_eq_right h];omega
           refine Qg (n:=n1) (i:=i) (j:=j) (i2:=i') (j2:=j') hE (bU a [x,y]) (by simpa using hO) ⟨by omega,by omega⟩ ⟨by omega,by omega⟩ ho (by rw[bw a [x,y] (by simp),hx]) (by rw[bw a [x,y] (by simp),hy]) fun m' hle hS=>?_
           refine⟨m',g,_,rfl,by simpa using hS,GE.refl g,rfl,rfl,fun i h=>absurd rfl h,⟨_,[],rfl,⟨gh,b,_,k1,k2,rfl,p4 g m' (GE.refl g) hle _ ?_⟩,rfl⟩,?_⟩
           . simp only[bt,aP,hmin]
           . simp only[bu,bt,hmin]
         . cases h
       . cases h
     . cases h
   . cases h
 . rename_i hco;obtain⟨l,hl,h'⟩:=aa.1 h;clear h;have h:=h';clear h';obtain⟨⟨ver,ao⟩,hq,h'⟩:=aa.1 h;clear h;have h:=h';clear h';split at h
   . rename_i T cs hao;simp only at hao;subst hao;obtain⟨cs1,hcs1,h'⟩:=aa.1 h;clear h;have h:=h';clear h';split at h
     . rename_i n1 f ws;split at h
       . rename_i hn;have hn:=af hn;subst hn;obtain⟨cs',hcs',h'⟩:=aa.1 h;clear h;have h:=h';clear h';refine⟨_,h,by simp,fun g a m Lr Lm hf _ ha hr hm hO=>?_⟩;simp only[pick,dg]at hr;subst hr;obtain⟨e,rfl,hoo,gh',b',us,j1,j2,rfl,j4⟩:=cb hm hq;rw[hox]at ha;obtain⟨hv,hw⟩:=cN ha;simp only[bu]at hv hw;simp only[bt]at hv;obtain⟨gh,b,k1,k2,k3,k4,k5,k6⟩:=hv;rw[k1]at j1;have e1:=ar j1;subst e1;rw[k2]at j2;have e2:=ar j2;subst e2;obtain⟨ad,c2,hy,hEl⟩:=gN hl hw;obtain⟨pre,c1,post,rfl,p2,p3,p4⟩:=vx hcs' hcs1 j4;simp only[bt]at p3;subst p3;subst p2;have hz:zK K ec.2=1:=by rw[hco];rfl
         rw[hz]at hE;obtain⟨i,rfl⟩:∃z:Nat,i=(z:Int):=⟨i.toNat,by omega⟩;obtain⟨j,rfl⟩:∃z:Nat,j=(z:Int):=⟨j.toNat,by omega⟩;have hx:a.eval x=.slice (some ⟨b,pre.length+i,none⟩) (j-i) (n1-i):=by
          have:((j:Int)-(i:Int)).toNat=j-i:=by omega
          simpa[this]using k3
         have hmin:mZ (List.length (α:=UInt8) l:Int) ((j:Int)-(i:Int))=((Nat.min (List.length (α:=UInt8) l) (j-i):Nat):Int):=by
          unfold mZ;rcases Nat.lt_or_ge (j-i) (List.length (α:=UInt8) l)with h|h
          . rw[if_pos (by omega),show Nat.min (List.length (α:=UInt8) l) (j-i)=j-i from Nat.min_eq_right (by omega)];omega
          . rw[if_neg (by omega),show Nat.min (List.length (α:=UInt8) l) (j-i)=List.length (α:=UInt8) l from Nat.min_eq_left h]
         refine Pb (l:=l) (n:=n1) (i:=i) (j:=j) hE (bU a [x,y]) (by simpa using hO) ⟨by omega,by omega⟩ hEl ho (by rw[bw a [x,y] (by simp),hx]) (by rw[bw a [x,y] (by simp),hy];rfl) fun m' hle hS=>?_
         refine⟨m',g,_,rfl,by simpa using hS,GE.refl g,rfl,rfl,fun i h=>absurd rfl h,⟨_,[],rfl,⟨gh,b,_,k1,k2,rfl,p4 g m' (GE.refl g) hle _ ?_⟩,rfl⟩,?_⟩
         . simp only[bt,aP,hmin]
         . simp only[bu,bt,hmin]
       . cases h
     . cases h
   . cases h
 . cases h
theorem yr(hT:cu P K tt){t t2:TypeId}{x y:Operand}(ho:o.op=.call ⟨.builtin .copy,#[x,y],#[t,t2]⟩){d s:CV S}(h:wy tt t d s ob k=some r):cH P K o [.one d,.one s] ob ct k r:=by
 have hox:o.op.operands.toList=[x,y]:=by rw[ho];rfl
 unfold wy at h;obtain⟨ec,hec,h'⟩:=aa.1 h;clear h;have h:=h';clear h';obtain⟨hu,ei,hei,hE,hb⟩:=fH hT hec;split at h
 . rename_i q c off n;obtain⟨⟨ver,ao⟩,hq,h'⟩:=aa.1 h;clear h;have h:=h';clear h';split at h
   . rename_i e c' full l hao;simp only at hao;subst hao;split at h
     . rename_i hc1 hc2 hc3 _ _ _;subst hc1;subst hc2;rw[hc3]at hE;obtain⟨x2,hx2,h'⟩:=aa.1 h;clear h;have h:=h';clear h';refine⟨_,h,by simp,fun g a m Lr Lm hf _ ha hr hm hO=>?_⟩;simp only[pick,dg]at hr;subst hr;obtain⟨en,rfl,hoo,gh,cs,j1,j2,rfl,j4,j5⟩:=cb hm hq;rw[hox]at ha;obtain⟨hv,hw⟩:=cN ha;simp only[bu,bt]at hv;obtain⟨gh',k1,k2,k3,k4,k5⟩:=hv;rw[j1]at k1;have e1:=ar k1;subst e1;have hx:a.eval x=.slice (cm gh.ad gh.cap off.toNat 1) n.toNat (gh.cap-off.toNat):=by simpa[zK,tK]using k2
       have hO':Ow m [bB.arr gh.g cs e]:=by simpa using hO
       have hA:dE oL m 1 gh.g cs gh.ad gh.cap l:=j4;have hfit:off.toNat+n.toNat<=l.length:=by omega
       obtain⟨a2,c2,hy,hsrc⟩:∃(a2:Option Addr) (c2:Nat),a.eval y=.slice a2 x2.length c2/\∀z,z<=x2.length->(Builtin.firstCells 1 z (.slice a2 x2.length c2)).run P m.w=.ok ((x2.take z).map U8).toArray m.w:=by
        rcases KN hx2 with⟨off2,n2,rfl,hxe⟩|hs
        . simp only[bu,bt]at hw;obtain⟨gh',p1,p2,p3,p4,p5⟩:=hw;rw[j1]at p1;have e1:=ar p1;subst e1;have hl2:((l.drop off2.toNat).take n2.toNat).length=n2.toNat:=by rw[aG,aZ];omega
          have hlx:x2.length=n2.toNat:=(congrArg List.length hxe).trans hl2;refine⟨cm gh.ad gh.cap off2.toNat 1,gh.cap-off2.toNat,by rw[hlx];simpa[zK,tK]using p2,fun z hz=>?_⟩;have:=Ik (P:=P) (c2:=gh.cap-off2.toNat) 0 (St.refl hO') rfl hA (off:=off2.toNat) (n:=n2.toNat) (by have:List.length (α:=UInt8) l=gh.n:=j2;omega) z (Nat.le_trans hz (Nat.le_of_eq hlx));rw[hlx,hxe];exact this
        . simp only[bu]at hw;obtain⟨ad,c2,p1,p2⟩:=gN hs hw;exact⟨ad,c2,p1,fun z hz=>Ed p2 z hz⟩
       have hlen:(IU (α:=UInt8) l off.toNat (x2.take n.toNat)).length=gh.n:=Eq.trans (ur (α:=UInt8) (l:=l) (x:=x2.take n.toNat) (o:=off.toNat) (show off.toNat<=List.length (α:=UInt8) l by have:List.length (α:=UInt8) l=gh.n:=j2;omega)) j2;refine KB hE (bU a [x,y]) 0 (St.refl hO') rfl hA hfit hsrc ho (by rw[bw a [x,y] (by simp),hx]) (by rw[bw a [x,y] (by simp),hy]) fun m' cs2 hle hS hA2 hsz=>?_
       rw[show((n.toNat:Nat):Int)=n by omega];refine⟨m',g,[bB.arr gh.g cs2 e],rfl,by simpa using hS,GE.refl g,rfl,rfl,fun i h=>absurd rfl h,⟨_,[],rfl,⟨gh,cs2,j1,hlen,rfl,hA2,fun hf'=>?_⟩,rfl⟩,by simp only[bu,bt]⟩;obtain⟨q1,q2⟩:=j5 hf';refine⟨q1,?_,fun b hb=>by rw[hsz];exact q2.2 b hb⟩;rw[<- q1];exact hA2
     . cases h
   . cases h
 . exact Hv hE ho h
 . cases h
theorem vf(hT:cu P K tt){t:TypeId}{x:Operand}(ho:o.op=.call ⟨.builtin .clear,#[x],#[t]⟩){v:CV S}(h:rp tb tt t v ob k=some r):cH P K o [.one v] ob ct k r:=by
 have hox:o.op.operands.toList=[x]:=by rw[ho];rfl
 unfold rp at h;obtain⟨ec,hec,h'⟩:=aa.1 h;clear h;have h:=h';clear h';obtain⟨ei,hei,h'⟩:=aa.1 h;clear h;have h:=h';clear h';obtain⟨z,hz,h'⟩:=aa.1 h;clear h;have h:=h';clear h';obtain⟨hu,ei',hei',hE,hb⟩:=fH hT hec;rw[hei]at hei';cases hei';have hty:=hT.ty _ _ hei;split at h
 . rename_i q c off n;obtain⟨⟨ver,ao⟩,hq,h'⟩:=aa.1 h;clear h;have h:=h';clear h';split at h
   . rename_i e' c' full l hao;simp only at hao;subst hao;split at h
     . rename_i hc1 hc2 _ _;subst hc1;subst hc2;refine⟨_,h,by simp,fun g a m Lr Lm hf _ ha hr hm hO=>?_⟩;simp only[pick,dg]at hr;subst hr;obtain⟨en,rfl,hoo,gh,cs,j1,j2,rfl,j4,j5⟩:=cb hm hq;rw[hox]at ha;have hv:=cF ha;simp only[bu,bt]at hv;obtain⟨gh',k1,k2,k3,k4,k5⟩:=hv;rw[j1]at k1;have e1:=ar k1;subst e1;have hx:a.eval x=.slice (cm gh.ad gh.cap off.toNat (zK K ec.2)) n.toNat (gh.cap-off.toNat):=by simpa using k2
       have hO':Ow m [bB.arr gh.g cs e']:=by simpa using hO
       have hfit:off.toNat+n.toNat<=l.length:=by omega
       have hRz:RK K ec.2 m z (zeroOf ei).cells.toList:=by rw[gP hty];exact nr (K:=K) (g:=g) (m:=m) hz (fO hty.Jm)
       refine H7 (bK K ec.2) hE (bU a [x]) 0 (St.refl hO') rfl j4 hfit hRz (by rw[gP hty];exact Bb hty.Jm) ho (by rw[bw a [x] (by simp),hx]) fun m' cs2 hle hS hA2 hsz=>?_
       refine⟨m',g,[bB.arr gh.g cs2 e'],rfl,by simpa using hS,GE.refl g,rfl,rfl,fun i h=>absurd rfl h,⟨_,[],rfl,⟨gh,cs2,j1,(yV hfit).trans j2,rfl,hA2,fun hf'=>?_⟩,rfl⟩,by simp only[bu,b6];exact⟨[],rfl,rfl⟩⟩;obtain⟨q1,q2⟩:=j5 hf';refine⟨q1,?_,fun b hb=>by rw[hsz];exact q2.2 b hb⟩;rw[<- q1];exact hA2
     . cases h
   . cases h
 . cases h
theorem vi{t:TypeId}{x y:Operand}(ho:o.op=.index t x y)(hu:P.underlying t=some .string){l:List UInt8}{iv:AV S}{i:Int}(hi:idxOf iv=some i){c:UInt8}(hc:idx l i=some c)(h:k (val (.u8 c))=some r):cH P K o [.one (.str l),iv] ob ct k r:=by
 have hox:o.op.operands.toList=[x,y]:=by rw[ho];rfl
 refine gG hox h fun g a m hv hw=>?_
 simp only[bt]at hv;have hx:a.eval x=.string (Proofs.YtjfkdglgecgjfaaGreat.str l):=by simpa using hv
 obtain⟨kk,hy⟩:=jf hi hw;obtain⟨jn,rfl,hj⟩:=mY hc;refine bp.val (v:=.int .u8 (c.toNat:Int)) ?_ ⟨rfl,by simp only[val,bu,bt]⟩;have hlt:=(List.getElem?_eq_some_iff.1 hj).1;have he:=(List.getElem?_eq_some_iff.1 hj).2;have hb:((⟨l.toArray⟩:ByteArray))[jn]?=some c:=by
  have hs:jn<(⟨l.toArray⟩:ByteArray).size:=by simpa[ByteArray.size]using hlt
  rw[getElem?_pos (⟨l.toArray⟩:ByteArray) jn hs];exact congrArg some (by rw[<- he];rfl)
 simp[execOp,ho,hx,hy,Instr.index,asIntOf,run_underlying hu,hb]
theorem Av(hT:cu P K tt){t e:TypeId}{x y:Operand}(ho:o.op=.index t x y){n:Nat}(hu:P.underlying t=some (.array n e)){ei:TI S}(hei:tt e=some ei)(hs:ei.size=1)(hA:dt ei.d=false){kk:IntKind}{f:Nat->Int}{iv:AV S}{i:Int}(hi:idxOf iv=some i)(hc:0<=i/\i<(n:Int))(h:k (val (.int kk (lH f i)))=some r):cH P K o [.agg [.ai n kk f],iv] ob ct k r:=by
 have hox:o.op.operands.toList=[x,y]:=by rw[ho];rfl
 refine⟨_,h,cZ fun g a m ha=>?_⟩;rw[hox]at ha;obtain⟨hv,hw⟩:=cN ha;simp only[bu]at hv;obtain⟨cs,hx,hcs⟩:=hv;have hcs:=gV hcs;simp only[bt]at hcs;subst hcs;obtain⟨ky,hy⟩:=jf hi hw;have hag:=(hT.ty e ei hei).agg;rw[hA,hs]at hag;obtain⟨d',i',hu',hi',hd',hs'⟩:=eX hag;obtain⟨i,rfl⟩:∃z:Nat,i=(z:Int):=⟨i.toNat,by omega⟩;have Bh:i<n:=by omega
 refine⟨.int kk (f i),?_,by simp only[val,bu,bt];simp[lH]⟩;have hcell:(((List.range n).map (fun q=>Value.int kk (f q))).toArray)[i*1]?=some (.int kk (f i)):=by
  rw[List.getElem?_toArray,Nat.mul_one,List.getElem?_map,List.getElem?_range Bh];rfl
 have hb:(isAgg e).run P m.w=.ok false m.w:=by rw[fS hu',hd']
 have hlt:(i:Int)<(n:Int):=hc.2;simp[execOp,ho,hx,hy,Instr.index,asIntOf,run_underlying hu,part,hb,sizeOf,typeInfo,hi',hs',Bh]
end E
end
end Go.Proofs.YtjfkdglgecgjfaaGreat
