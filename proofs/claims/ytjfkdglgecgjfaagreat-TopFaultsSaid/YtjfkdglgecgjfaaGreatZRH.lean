/- Part of the proof. -/
import Derived.Test.YtjfkdglgecgjfaaGreatZRB
import Derived.RangeFuncLeaves
namespace Go.Proofs.YtjfkdglgecgjfaaGreat.R
open Go.RowKit
section
variable {P:Program}{w0 w w':World}{cs0 cs:List Frame}{ρ ρ':lP}{h h':HS}{u us:List Nat}{fr:Frame}{s:qW}
theorem BT(H:WR w0 ρ h w){q:Nat}{L:Loc}{st:LoopState}{pe:Option Code}{fn n:Nat}{K:Tr AV}{ps:Array Tmp}{fC body:Code}{d:Nat}(hx:h.H.get q=some (.loop st pe fn n K ps fC body d))(hL:ρ q=some L):
 ∃tmps ld,sA ρ n K tmps/\ρ d=some ld/\w.heap[L.b]?=some (.loop {state:=st,pending:=pe,fn:=fn,tmps:=tmps,params:=ps,assign:=fC,body:=body,defers:=ld.b}):=H.obj _ _ _ hx hL
theorem D3(H:WR w0 ρ h w){q:Nat}{L:Loc}{st st':LoopState}{pe pe':Option Code}{fn n:Nat}{K:Tr AV}{ps:Array Tmp}{fC body:Code}{d:Nat}(hx:h.H.get q=some (.loop st pe fn n K ps fC body d))(hL:ρ q=some L){tmps:Array Value}{ld:Loc}
 (t1:sA ρ n K tmps) (t2:ρ d=some ld) (t3:w.heap[L.b]?=some (.loop {state:=st,pending:=pe,fn:=fn,tmps:=tmps,params:=ps,assign:=fC,body:=body,defers:=ld.b})):
 WR w0 ρ (h.set q (.loop st' pe' fn n K ps fC body d)) {w with heap:=w.heap.setIfInBounds L.b (.loop {state:=st',pending:=pe',fn:=fn,tmps:=tmps,params:=ps,assign:=fC,body:=body,defers:=ld.b})}:=
 H.set hx hL (fL w L.b _) (fun b hb=>fY w L.b _ b hb) ⟨tmps,ld,t1,t2,mZ w _ t3⟩
theorem TM(hf:FR ρ s.fr fr u)(hs:Vl s.fr.todo fr.todo)(H:WR w0 ρ s.h w)(hcs:Iq ρ s.cs cs us)(hF:iE ρ s.h.nx (u++us))(hst:step P (lone fr (cs++cs0) w)=.next (lone {fr with mode:=.returning} (cs++cs0) w)):
 iW P w0 cs0 (lone fr (cs++cs0) w) (.one {s with fr:={s.fr with mode:=.ret}}):=
 ⟨_,Steps.one hst,ρ,_,cs,w,u,us,rfl,H,⟨hf.fn,hf.kind,hf.rd,rfl,hf.ds,hf.body,.inr hs⟩,hcs,hF⟩
theorem pg(hF:iE ρ h.nx (u++us)):iE ρ h.nx us:=⟨(List.nodup_append.1 hF.1).2.1,fun q hq=>hF.2 q (ba _ hq)⟩
theorem JC{jump:Option Code}(H:WR w0 ρ s.h w)(hf:FR ρ s.fr fr u)(hs:Vl s.fr.todo fr.todo)(hcs:Iq ρ s.cs cs us)(hF:iE ρ s.h.nx (u++us))(h1:fr.roundOf=none->jump=none\/jump=some .ret->step P (lone fr (cs++cs0) w)=.next (lone {fr with mode:=.returning} (cs++cs0) w))
 (h2:∀l c ccs v w',fr.roundOf=some l->fr.kind=.normal->cs++cs0=c::ccs->(Instr.endRound l jump).run P w=.ok v w'->step P (lone fr (cs++cs0) w)=.next (lone (c.finish v) ccs w')):iW P w0 cs0 (lone fr (cs++cs0) w) (mX s jump):=by
 unfold mX
 split
 . rename_i hrd
   have hro:fr.roundOf=none:=by have:=hf.rd;rw[hrd]at this;exact this
   split
   . exact TM hf hs H hcs hF (h1 hro (.inl rfl))
   . exact TM hf hs H hcs hF (h1 hro (.inr rfl))
   . trivial
 . rename_i q hrd
   refine cZ fun y hy=>?_
   simp only[aa]at hy
   obtain⟨x,e1,hy⟩:=hy
   split at hy
   . rename_i st pe fn n K ps fC body d c ccs hkind hcc
     simp only[ab]at hy
     obtain⟨A',e2,rfl⟩:=hy
     have hro:=hf.rd
     rw[hrd]at hro
     obtain⟨L,hL,hro⟩:=hro
     obtain⟨tmps,ld,t1,t2,t3⟩:=BT H e1 hL
     rw[hcc]at hcs
     obtain⟨cf,cfs,u1,us1,rfl,rfl,c1,c2,c3⟩:=hcs.cons_inv
     have hrun:(Instr.endRound L.b jump).run P w=.ok (.bool jump.isNone) {w with heap:=w.heap.setIfInBounds L.b (.loop {state:=if jump.isNone then .ready else .done,pending:=jump,fn:=fn,tmps:=tmps,params:=ps,assign:=fC,body:=body,defers:=ld.b})}:=by
      have hget:(getObj L.b).run P w=.ok _ w:=jO t3 (fun _ _ _ h=>by cases h);have hset:∀ob,(setObj L.b ob).run P w=.ok () {w with heap:=w.heap.setIfInBounds L.b ob}:=fun ob=>nN t3 (fun _ _ _ h=>by cases h)
      simp only[Instr.endRound,Instr.getLoop,Sem.run_bind,hget,Result.andThen_ok,hset,Sem.run_pure]
     have hst:=h2 L.b cf (cfs++cs0) _ _ hro (by rw[hf.kind,hkind]) rfl hrun
     have hN:jl s.h (s.h.set q (.loop (if jump.isNone then .ready else .done) jump fn n K ps fC body d)) ρ ρ:=jl.refl
     exact⟨_,Steps.one hst,ρ,_,cfs,_,u1,us1,rfl,D3 H e1 hL t1 t2 t3,(eY (v:=.p (.bool jump.isNone)) c1 c2 rfl e2).1,c3,(pg hF).ext hN⟩
   . cases hy
theorem lr{id:Nat}:∀{k k2:List AI} {k':List Item},ez ρ k=some k'->xm id k=some k2->∃k2',exitTo id k'=some k2'/\ez ρ k2=some k2'
 |[],_,_,_,e=>by cases e
 |x::k,k2,k',hk,e=>by
  obtain⟨y,l',rfl,h1,h2⟩:=dk hk
  cases x with
  |mQ id'=>
   simp only[dF,af]at h1;subst h1
   simp only[xm]at e
   simp only[exitTo]
   have hb:(id' == id)=Nat.beq id' id:=by rw[Bool.eq_iff_iff];simp
   rw[hb]
   split at e
   . rename_i hq;cases e;exact⟨l',by rw[hq];rfl,h2⟩
   . rename_i hq;rw[hq];exact lr h2 e
  |code c=>simp only[dF,af]at h1;subst h1;exact lr (k:=k) (k':=l') h2 e
  |lp c=>simp only[dF,af]at h1;subst h1;exact lr (k:=k) (k':=l') h2 e
  |sc c=>simp only[dF,af]at h1;subst h1;exact lr (k:=k) (k':=l') h2 e
  |ops o l=>simp only[dF,af]at h1;subst h1;exact lr (k:=k) (k':=l') h2 e
  |qA a b c d=>cases h1
  |rf o=>simp only[dF,ab]at h1;obtain⟨L,_,rfl⟩:=h1;exact lr (k:=k) (k':=l') h2 e
  |er o=>simp only[dF,ab]at h1;obtain⟨L,_,rfl⟩:=h1;exact lr (k:=k) (k':=l') h2 e
  |br=>simp only[dF,af]at h1;subst h1;exact lr (k:=k) (k':=l') h2 e
theorem ik{id:Nat}:∀{k:List AI} {k':List Item},ez ρ k=some k'->xm id k=none->exitTo id k'=none
 |[],_,hk,_=>by simp only[ez,af]at hk;subst hk;rfl
 |x::k,k',hk,e=>by
  obtain⟨y,l',rfl,h1,h2⟩:=dk hk
  cases x with
  |mQ id'=>
   simp only[dF,af]at h1;subst h1
   simp only[xm]at e
   simp only[exitTo]
   have hb:(id' == id)=Nat.beq id' id:=by rw[Bool.eq_iff_iff];simp
   rw[hb]
   split at e
   . cases e
   . rename_i hq;rw[hq];exact ik h2 e
  |code c=>simp only[dF,af]at h1;subst h1;exact ik (k:=k) (k':=l') h2 e
  |lp c=>simp only[dF,af]at h1;subst h1;exact ik (k:=k) (k':=l') h2 e
  |sc c=>simp only[dF,af]at h1;subst h1;exact ik (k:=k) (k':=l') h2 e
  |ops o l=>simp only[dF,af]at h1;subst h1;exact ik (k:=k) (k':=l') h2 e
  |qA a b c d=>cases h1
  |rf o=>simp only[dF,ab]at h1;obtain⟨L,_,rfl⟩:=h1;exact ik (k:=k) (k':=l') h2 e
  |er o=>simp only[dF,ab]at h1;obtain⟨L,_,rfl⟩:=h1;exact ik (k:=k) (k':=l') h2 e
  |br=>simp only[dF,af]at h1;subst h1;exact ik (k:=k) (k':=l') h2 e
theorem lx{t:Nat}:∀{k k2:List AI} {k':List Item},ez ρ k=some k'->Da t k=some k2->∃k2',gotoIn t k'=some k2'/\ez ρ k2=some k2'
 |[],_,_,_,e=>by cases e
 |x::k,k2,k',hk,e=>by
  obtain⟨y,l',rfl,h1,h2⟩:=dk hk
  cases x with
  |sc body=>
   simp only[dF,af]at h1;subst h1
   simp only[Da]at e
   simp only[gotoIn]
   split at e
   . rename_i r hr;cases e
     exact⟨_,by rw[hr],dp rfl (dp rfl h2)⟩
   . rename_i hr;rw[hr];exact lx h2 e
  |code c=>simp only[dF,af]at h1;subst h1;exact lx (k:=k) (k':=l') h2 e
  |lp c=>simp only[dF,af]at h1;subst h1;exact lx (k:=k) (k':=l') h2 e
  |mQ c=>simp only[dF,af]at h1;subst h1;exact lx (k:=k) (k':=l') h2 e
  |ops o l=>simp only[dF,af]at h1;subst h1;exact lx (k:=k) (k':=l') h2 e
  |qA a b c d=>cases h1
  |rf o=>simp only[dF,ab]at h1;obtain⟨L,_,rfl⟩:=h1;exact lx (k:=k) (k':=l') h2 e
  |er o=>simp only[dF,ab]at h1;obtain⟨L,_,rfl⟩:=h1;exact lx (k:=k) (k':=l') h2 e
  |br=>simp only[dF,af]at h1;subst h1;exact lx (k:=k) (k':=l') h2 e
theorem iw{t:Nat}:∀{k:List AI} {k':List Item},ez ρ k=some k'->Da t k=none->gotoIn t k'=none
 |[],_,hk,_=>by simp only[ez,af]at hk;subst hk;rfl
 |x::k,k',hk,e=>by
  obtain⟨y,l',rfl,h1,h2⟩:=dk hk
  cases x with
  |sc body=>
   simp only[dF,af]at h1;subst h1
   simp only[Da]at e
   simp only[gotoIn]
   split at e
   . cases e
   . rename_i hr;rw[hr];exact iw h2 e
  |code c=>simp only[dF,af]at h1;subst h1;exact iw (k:=k) (k':=l') h2 e
  |lp c=>simp only[dF,af]at h1;subst h1;exact iw (k:=k) (k':=l') h2 e
  |mQ c=>simp only[dF,af]at h1;subst h1;exact iw (k:=k) (k':=l') h2 e
  |ops o l=>simp only[dF,af]at h1;subst h1;exact iw (k:=k) (k':=l') h2 e
  |qA a b c d=>cases h1
  |rf o=>simp only[dF,ab]at h1;obtain⟨L,_,rfl⟩:=h1;exact iw (k:=k) (k':=l') h2 e
  |er o=>simp only[dF,ab]at h1;obtain⟨L,_,rfl⟩:=h1;exact iw (k:=k) (k':=l') h2 e
  |br=>simp only[dF,af]at h1;subst h1;exact iw (k:=k) (k':=l') h2 e
theorem GN{n:Nat}{K:Tr AV}{x:Operand}{v:AV}{ds:List Deferred}(ht:sA ρ n K fr.tmps)(e:eB K x=some v):conv ρ v=some ((⟨fr.tmps,ds⟩:Act).eval x):=by
 cases x with
 |tmp t=>
  obtain⟨u,k1,k2⟩:=ht.at_ t v e
  rw[Kx k2];exact k1
 |const c=>simp only[eB,af]at e;subst e;exact iI c
 |global g=>simp only[eB,af]at e;subst e;rfl
 |func f=>simp only[eB,af]at e;subst e;rfl
theorem VL{c:Code}{k:List AI}{k':List Item}(H:WR w0 ρ s.h w)(hf:FR ρ s.fr fr u)(hs:Vl s.fr.todo fr.todo)(hcs:Iq ρ s.cs cs us)(hF:iE ρ s.h.nx (u++us))(hm:fr.mode=.run)(hk:ez ρ k=some k')(ht:sA ρ s.fr.n s.fr.K fr.tmps)(htd:fr.todo=.code c::k'):
 iW P w0 cs0 (lone fr (cs++cs0) w) (mA P s c k):=by
 have hmr:=Dq hf hm
 have hself:fr.atR ⟨fr.tmps,fr.defers⟩ (.code c::k')=fr:=by rw[<- htd];exact qY hm
 have go:∀{l:List AI} {l':List Item} {w':World},ez ρ l=some l'->WR w0 ρ s.h w'->step P (lone (fr.atR ⟨fr.tmps,fr.defers⟩ (.code c::k')) (cs++cs0) w)=.next (lone (fr.atR ⟨fr.tmps,fr.defers⟩ l') (cs++cs0) w')->iW P w0 cs0 (lone fr (cs++cs0) w) (.one {s with fr:={s.fr with todo:=l}}):=fun{l l' w'} hl Hw hst=>by
  rw[hself]at hst;exact⟨_,Steps.one hst,ρ,_,cs,w',u,us,rfl,Hw,⟨hf.fn,hf.kind,hf.rd,by have:=hf.mode;rw[hm]at this;exact this,hf.ds,(cY (DN hl)).2 ⟨hl,ht⟩,.inl hmr⟩,hcs,hF⟩
 have leave:∀{jump:Option Code},(fr.roundOf=none->jump=none\/jump=some .ret->step P (lone (fr.atR ⟨fr.tmps,fr.defers⟩ (.code c::k')) (cs++cs0) w)=.next (lone {fr.atR ⟨fr.tmps,fr.defers⟩ (.code c::k')with mode:=.returning} (cs++cs0) w))->
  (∀l cc ccs v w',fr.roundOf=some l->fr.kind=.normal->(Instr.endRound l jump).run P w=.ok v w'->step P (lone (fr.atR ⟨fr.tmps,fr.defers⟩ (.code c::k')) (cc::ccs) w)=.next (lone (cc.finish v) ccs w'))->iW P w0 cs0 (lone fr (cs++cs0) w) (mX s jump):=fun{jump} a1 a2=>by
  refine JC H hf hs hcs hF (fun b1 b2=>?_) (fun l cc ccs v w' b1 b2 b3 b4=>?_)
  . have:=a1 b1 b2;rw[hself]at this;exact this
  . have:=a2 l cc ccs v w' b1 b2 b4;rw[hself]at this;rw[b3];exact this
 cases c with
 |skip=>exact go hk H stepR_skip
 |label l=>exact go hk H stepR_label
 |ret=>exact leave (fun b1 _=>stepR_ret b1) (fun l cc ccs v w' b1 b2 b4=>stepR_round_ret b1 b2 b4)
 |seq a b=>exact go (dp rfl (dp rfl hk)) H stepR_seq
 |cond c a b=>
  simp only[mA]
  split
  . rename_i e
    have:=dR (GN (ds:=fr.defers) ht e)
    exact go (dp rfl hk) H (stepR_cond this)
  . rename_i e
    have:=dR (GN (ds:=fr.defers) ht e)
    exact go (dp rfl hk) H (stepR_cond this)
  . trivial
 |block id b=>exact go (dp rfl (dp rfl hk)) H stepR_block
 |loop b=>exact go (dp rfl (dp rfl hk)) H stepR_loop
 |scope b=>
  refine go (dp rfl (dp rfl hk)) H (step_lone_go ?_)
  simp[stepG,stepG.exec,Frame.atR]
 |exit id=>
  simp only[mA]
  split
  . rename_i k2 e
    obtain⟨k2',g1,g2⟩:=lr hk e
    exact go g2 H (stepR_exit g1)
  . rename_i e
    have g1:=ik hk e
    exact leave (fun _ b2=>by rcases b2 with b2|b2<;>cases b2) (fun l cc ccs v w' b1 b2 b4=>stepR_round_exit b1 b2 g1 b4)
 |goto t=>
  simp only[mA]
  split
  . rename_i k2 e
    obtain⟨k2',g1,g2⟩:=lx hk e
    exact go g2 H (stepR_goto g1)
  . rename_i e
    have g1:=iw hk e
    exact leave (fun _ b2=>by rcases b2 with b2|b2<;>cases b2) (fun l cc ccs v w' b1 b2 b4=>stepR_round_goto b1 b2 g1 b4)
 |region id ops dr=>
  cases dr with
  |false=>exact go (dp rfl hk) H stepR_region
  |true=>
   simp only[mA]
   split
   . rename_i hb
     simp only[al]at hb
     have hst:=stepR_region_draw (P:=P) (b:=fr) (a:=⟨fr.tmps,fr.defers⟩) (k:=k') (cs:=cs++cs0) (w:=w) (ops:=ops) (id:=id)
     rw[hself]at hst
     simp only[Region.schedule,hb.1,Bool.true_or,if_true]at hst
     obtain⟨htidy,_⟩:=nX hb.2
     have hlin:=Zj (ops:=ops) ops.size (w.tape w.drawn (.order fr.fn id)) (Array.replicate ops.size false) (by simp) (by
      unfold D.left;exact Nat.le_trans List.countP_le_length (by simp))
     have hnl:=D.pY ops.size
     refine⟨_,Steps.one hst,ρ,_,cs,w.drew,u,us,rfl,H.drew,⟨hf.fn,hf.kind,hf.rd,by have:=hf.mode;rw[hm]at this;exact this,hf.ds,⟨_,k',Array.replicate ops.size false,rfl,hk,?_⟩,.inl hmr⟩,hcs,hF⟩
     exact{
      nW:=hb.2
      ZU:=(List.nodup_range).sublist List.filter_sublist
      size:=by simp
      Vn:=hlin
      closed:=vJ.start ops
      chain:=fun i o ho he=>by
       simp only[hnl i,not_false_eq_true,true_iff,zd,bu,List.mem_range,ho,he,and_true];exact(Array.getElem?_eq_some_iff.1 ho).1
      todo:=fun i hi=>by
       simp only[zd,bu,List.mem_range]at hi;have ho:ops[i]?=some ops[i]:=by simp[hi.1]
       rw[ho]at hi;exact⟨_,ho,hi.2⟩
      quiet:=fun i o ho he _=>⟨.no,by
       simp only[wk,List.mem_filterMap,List.mem_range];exact⟨i,(Array.getElem?_eq_some_iff.1 ho).1,by simp[ho,he]⟩⟩
      news:=fun i q hm _=>by
       simp only[wk,List.mem_filterMap,aa]at hm;obtain⟨j,_,o,_,hm⟩:=hm;split at hm<;>cases hm
      Q5:=fun i _=>hnl i
      keys:=fun i fl hm=>by
       simp only[wk,List.mem_filterMap,aa]at hm;obtain⟨j,_,o,ho,hm⟩:=hm;split at hm
       . cases hm
       . rename_i he;cases hm;exact⟨o,ho,he⟩
      Ek:=ht.size
      Vz:=fun t x hx _=>ht.at_ t x hx
      Yi:=fun t x hx _=>ht.at_ t x hx}
   . trivial
 |rangeFunc g ps fC body=>
  simp only[mA]
  refine cZ fun y hy=>?_
  simp only[aa]at hy
  obtain⟨⟨h1,d,ads⟩,e1,v,e2,hy⟩:=hy
  have hv:=GN (ds:=fr.defers) ht e2
  split at hy
  . rename_i gf first caps
    split at hy
    . rename_i hen
      simp only[ab]at hy
      obtain⟨A',e3,rfl⟩:=hy
      have key:∃ρ1 w1 ld mark,jl s.h h1 ρ ρ1/\WR w0 ρ1 h1 w1/\ρ1 d=some ld/\gQ ρ1 ads=some mark/\(Instr.enterLoop fr.fn fr.tmps ps fC body fr.roundOf).run P w=.ok (w1.heap.size,mark) (w1.alloc (.loop {state:=.ready,pending:=none,fn:=fr.fn,tmps:=fr.tmps,params:=ps,assign:=fC,body:=body,defers:=ld.b})):=by
       split at e1
       . rename_i hrd;have hro:fr.roundOf=none:=by have:=hf.rd;rw[hrd]at this;exact this
         cases e1;have W:=(H.add (.XL false)).alloc (o:=s.h.nx) (n:=0) (ob:=.deferred (some [])) (w':=w.alloc (.deferred (some []))) (add_get _ _) (H.fresh _ (Nat.le_refl _)).1 (.inl rfl) (by simp only[iY];rw[nA,if_pos rfl]);refine⟨_,_,⟨w.heap.size,0,0⟩,[{target:=.collected w.heap.size,args:= #[]}],jl.put (H.fresh _ (Nat.le_refl _)).1,W,kI,by simp only[gQ,te,kI,ak,ae],?_⟩;simp[Instr.enterLoop,hro]
       . rename_i q hrd;have hro:=hf.rd;rw[hrd]at hro;obtain⟨L,hL,hro⟩:=hro;simp only[aa]at e1;obtain⟨x,g1,e1⟩:=e1;split at e1
         . cases e1;obtain⟨tmps,ld,t1,t2,t3⟩:=BT H g1 hL;have hget:(getObj L.b).run P w=.ok _ w:=jO t3 (fun _ _ _ h=>by cases h);refine⟨ρ,w,ld,[],jl.refl,H,t2,rfl,?_⟩;simp[Instr.enterLoop,hro,Instr.getLoop,hget]
         . cases e1
      obtain⟨ρ1,w1,ld,mark,hN,H1,hld,hmark,hrun⟩:=key
      have hn1:ρ1 h1.nx=none:=(H1.fresh _ (Nat.le_refl _)).1
      have hne:d≠h1.nx:=fun e=>by rw[e,hn1]at hld;cases hld
      have W2:=(H1.add (.loop .ready none s.fr.fn s.fr.n s.fr.K ps fC body d)).alloc (o:=h1.nx) (n:=0) (ob:=.loop {state:=.ready,pending:=none,fn:=fr.fn,tmps:=fr.tmps,params:=ps,assign:=fC,body:=body,defers:=ld.b}) (w':=w1.alloc (.loop {state:=.ready,pending:=none,fn:=fr.fn,tmps:=fr.tmps,params:=ps,assign:=fC,body:=body,defers:=ld.b})) (add_get _ _) hn1 (.inl rfl)
       ⟨fr.tmps,ld,(ht.mono hN.ext).mono (lI hn1),by rw[rY hne];exact hld,by rw[nA,if_pos rfl,hf.fn]⟩
      have hN2:jl h1 (h1.add (.loop .ready none s.fr.fn s.fr.n s.fr.K ps fC body d)) ρ1 (put ρ1 h1.nx ⟨w1.heap.size,0,0⟩):=jl.put hn1
      have hE:=hN.ext.trans hN2.ext
      have hv':=fV hE _ _ hv
      simp only[conv,aa,ab]at hv'
      obtain⟨aS,q1,cs1,q2,q3⟩:=hv'
      have hyl:conv (put ρ1 h1.nx ⟨w1.heap.size,0,0⟩) (.yl h1.nx)=some (.func (.yield w1.heap.size) #[] #[]):=by simp only[conv,kI,ak]
      have hargs:bX (put ρ1 h1.nx ⟨w1.heap.size,0,0⟩) (first++[.yl h1.nx]++caps)=some (aS++[.func (.yield w1.heap.size) #[] #[]]++cs1):=dc (dc q1 (n5 hyl rfl)) q2
      have hst:=stepR_rangeFunc (P:=P) (b:=fr) (a:=⟨fr.tmps,fr.defers⟩) (k:=k') (cs:=cs++cs0) (w:=w) (g:=g) (ps:=ps) (assign:=fC) (body:=body) (l:=w1.heap.size) (mark:=mark) (d:={target:=.fn (.func gf) cs1.toArray,args:=aS.toArray++ #[.func (.yield w1.heap.size) #[] #[]]}) (f:=gf) (args:=(aS++[Value.func (.yield w1.heap.size) #[] #[]]++cs1).toArray) hrun
       (by
        have hone:(#[Operand.const (Value.func (.yield w1.heap.size) #[] #[])]).map (⟨fr.tmps,fr.defers⟩:Act).eval= #[Value.func (.yield w1.heap.size) #[] #[]]:=by simp[Act.eval]
        simp only[resolve,Deferred.ofValue,<- q3,Sem.run_pure,hone];exact rfl)
       (by
        have:=rn hen ((aS++[Value.func (.yield w1.heap.size) #[] #[]]++cs1).toArray) (w1.alloc (.loop {state:=.ready,pending:=none,fn:=fr.fn,tmps:=fr.tmps,params:=ps,assign:=fC,body:=body,defers:=ld.b}));simp only[invoke];rw[<- this];congr 2;simp)
      rw[hself]at hst
      refine⟨_,Steps.one hst,put ρ1 h1.nx ⟨w1.heap.size,0,0⟩,_,_::cs,_,[],u++us,rfl,W2,xj e3 hargs,.cons ⟨hf.fn,hf.kind,hf.rd.mono hE,?_,?_,(cY (by trivial)).2 ⟨dp (by simp only[dF,kI,ak]) (jv hE hk),ht.mono hE⟩,.inl hmr⟩ trivial (hcs.mono hE),(hF.ext hN).ext hN2⟩
      . have:=CG hE hf.mode;rw[hm]at this;exact this
      . have happ:∀{x y:List AD} {x' y':List Deferred},gQ (put ρ1 h1.nx ⟨w1.heap.size,0,0⟩) x=some x'->gQ (put ρ1 h1.nx ⟨w1.heap.size,0,0⟩) y=some y'->gQ (put ρ1 h1.nx ⟨w1.heap.size,0,0⟩) (x++y)=some (x'++y'):=by
         intro x
         induction x with
         |nil=>intro y x' y' h1 h2;simp only[gQ,af]at h1;subst h1;exact h2
         |cons p x ih=>
          intro y x' y' h1 h2
          simp only[gQ,aa,ab]at h1
          obtain⟨q',g1,x2,g2,rfl⟩:=h1
          simp only[aV,gQ,g1,ih g2 h2,ae,ak]
        exact happ (pa hN2.ext hmark) (pa hE hf.ds)
    . cases hy
  . cases hy
 |refuse why=>trivial
end
end Go.Proofs.YtjfkdglgecgjfaaGreat.R
namespace Go.Proofs.YtjfkdglgecgjfaaGreat.R
open Go.RowKit
section
variable {P:Program}{w0 w w':World}{cs0 cs:List Frame}{ρ ρ':lP}{h h':HS}{u us:List Nat}{fr:Frame}{s:qW}
theorem Wp(hX:gL P w0)(H:WR w0 ρ s.h w)(hf:FR ρ s.fr fr u)(hcs:Iq ρ s.cs cs us)(hF:iE ρ s.h.nx (u++us))(hm:fr.mode=.run):iW P w0 cs0 (lone fr (cs++cs0) w) (po P s):=by
 have hmr:=Dq hf hm;unfold po;have hb:=hf.body;have go:∀{k:List AI} {k' todo:List Item} {h':HS} {w':World},fr.todo=todo->sA ρ s.fr.n s.fr.K fr.tmps->ez ρ k=some k'->WR w0 ρ h' w'->s.h.nx=h'.nx->step P (lone (fr.atR ⟨fr.tmps,fr.defers⟩ todo) (cs++cs0) w)=.next (lone (fr.atR ⟨fr.tmps,fr.defers⟩ k') (cs++cs0) w')->
  iW P w0 cs0 (lone fr (cs++cs0) w) (.one {s with h:=h',fr:={s.fr with todo:=k}}):=fun{k k' todo h' w'} htd ht hk Hw hnx hst=>by
  rw[<- htd,qY hm]at hst
  refine⟨_,Steps.one hst,ρ,_,cs,w',u,us,rfl,Hw,⟨hf.fn,hf.kind,hf.rd,by have:=hf.mode;rw[hm]at this;exact this,hf.ds,(cY (DN hk)).2 ⟨hk,ht⟩,.inl hmr⟩,hcs,?_⟩
  exact hF.ext (h:=s.h) (h':=h') ⟨Ext.refl ρ,fun _ _=>rfl,Nat.le_of_eq hnx⟩
 split
 . rename_i hA;rw[hA,cY (by trivial)]at hb;obtain⟨hb1,hb2⟩:=hb;simp only[ez,af]at hb1;refine JC H hf (by rw[hA];trivial) hcs hF (fun b1 _=>?_) (fun l cc ccs v w' b1 b2 b3 b4=>?_)
   . have:=stepR_end (P:=P) (b:=fr) (a:=⟨fr.tmps,fr.defers⟩) (cs:=cs++cs0) (w:=w) b1;rw[hb1,qY hm]at this;exact this
   . have:=stepR_round_end (P:=P) (b:=fr) (a:=⟨fr.tmps,fr.defers⟩) (cs:=ccs) (w:=w) (c:=cc) b1 b2 b4;rw[hb1,qY hm]at this;rw[b3];exact this
 . rename_i c k hA;rw[hA,cY (by trivial)]at hb;obtain⟨hb1,hb2⟩:=hb;obtain⟨y,k',hy,h1,h2⟩:=dk hb1;cases h1;exact VL H hf (by rw[hA];trivial) hcs hF hm h2 hb2 hy
 . rename_i id k hA;rw[hA,cY (by trivial)]at hb;obtain⟨hb1,hb2⟩:=hb;obtain⟨y,k',hy,h1,h2⟩:=dk hb1;cases h1;exact go hy hb2 h2 H rfl stepR_inBlock
 . rename_i c k hA;rw[hA,cY (by trivial)]at hb;obtain⟨hb1,hb2⟩:=hb;obtain⟨y,k',hy,h1,h2⟩:=dk hb1;cases h1;refine go hy hb2 h2 H rfl (step_lone_go ?_);simp[stepG,stepG.exec,Frame.atR]
 . rename_i c k hA;rw[hA,cY (by trivial)]at hb;obtain⟨hb1,hb2⟩:=hb;obtain⟨y,k',hy,h1,h2⟩:=dk hb1;cases h1;exact go hy hb2 (dp rfl (dp rfl h2)) H rfl stepR_inLoop
 . rename_i ops k hA;rw[hA,cY (by trivial)]at hb;obtain⟨hb1,hb2⟩:=hb;obtain⟨y,k',hy,h1,h2⟩:=dk hb1;cases h1;exact go hy hb2 h2 H rfl stepR_region_end
 . rename_i ops i l k hA;rw[hA,cY (by trivial)]at hb;obtain⟨hb1,hb2⟩:=hb;obtain⟨y,k',hy,h1,h2⟩:=dk hb1;cases h1;exact FN hX H hf (by rw[hA];trivial) hcs hF hm hy (fun o _ x v _ hv=>GN hb2 hv) (fun o g _ hg=>Db hg fun t x _ hx=>hb2.at_ t x hx)
 . rename_i ops K0 todo pend k hA;exact I5 hX H hf hcs hF hA hm
 . trivial
 . rename_i q k hA;rw[hA,cY (by trivial)]at hb;obtain⟨hb1,hb2⟩:=hb;obtain⟨y,k',hy,h1,h2⟩:=dk hb1;simp only[dF,ab]at h1;obtain⟨L,hL,rfl⟩:=h1;refine cZ fun y hy2=>?_
   simp only[aa]at hy2;obtain⟨x,e1,hy2⟩:=hy2;split at hy2
   . rename_i st pe fn n K ps fC body d;obtain⟨tmps,ld,t1,t2,t3⟩:=BT H e1 hL;have hnb:st≠ .busy:=fun e=>by rw[e]at hy2;cases hy2
     have hy3:y=.one {s with h:=s.h.set q (.loop .exhausted pe fn n K ps fC body d),fr:={s.fr with todo:=(pe.map AI.code).toList++k}}:=by
      cases st<;>first|exact absurd rfl hnb|exact(ax hy2).symm
     subst hy3;have hrun:(Instr.endLoop L.b).run P w=.ok pe {w with heap:=w.heap.setIfInBounds L.b (.loop {state:=.exhausted,pending:=pe,fn:=fn,tmps:=tmps,params:=ps,assign:=fC,body:=body,defers:=ld.b})}:=by
      have hget:(getObj L.b).run P w=.ok _ w:=jO t3 (fun _ _ _ h=>by cases h);have hset:∀ob,(setObj L.b ob).run P w=.ok () {w with heap:=w.heap.setIfInBounds L.b ob}:=fun ob=>nN t3 (fun _ _ _ h=>by cases h)
      have hb:(st == LoopState.busy)=false:=by cases st<;>first|rfl|exact absurd rfl hnb
      simp only[Instr.endLoop,Instr.getLoop,Sem.run_bind,hget,Result.andThen_ok,Sem.run_pure,hb,aH,if_false,hset]
     exact go hy hb2 (k:=(pe.map AI.code).toList++k) (k':=(pe.map Item.code).toList++k') (by cases pe with|none=>exact h2|some c=>exact dp rfl h2) (D3 H e1 hL t1 t2 t3) rfl (stepR_endRangeFunc hrun)
   . cases hy2
 . rename_i k hA;rw[hA,cY (by trivial)]at hb;obtain⟨hb1,hb2⟩:=hb;obtain⟨y,k',hy,h1,h2⟩:=dk hb1;cases h1;refine cZ fun y hy2=>?_
   simp only[aa]at hy2;obtain⟨q,hrd,x,e1,hy2⟩:=hy2;split at hy2
   . rename_i pe fn n K ps fC body d;cases hy2;have hro:=hf.rd;rw[hrd]at hro;obtain⟨L,hL,hro⟩:=hro;obtain⟨tmps,ld,t1,t2,t3⟩:=BT H e1 hL;have hrun:(Instr.beginRound L.b).run P w=.ok () {w with heap:=w.heap.setIfInBounds L.b (.loop {state:=.busy,pending:=pe,fn:=fn,tmps:=tmps,params:=ps,assign:=fC,body:=body,defers:=ld.b})}:=by
      have hget:(getObj L.b).run P w=.ok _ w:=jO t3 (fun _ _ _ h=>by cases h);have hset:∀ob,(setObj L.b ob).run P w=.ok () {w with heap:=w.heap.setIfInBounds L.b ob}:=fun ob=>nN t3 (fun _ _ _ h=>by cases h)
      simp only[Instr.beginRound,Instr.getLoop,Sem.run_bind,hget,Result.andThen_ok,Sem.run_pure,hset]
     exact go hy hb2 h2 (D3 H e1 hL t1 t2 t3) rfl (stepR_beginRound hro hrun)
   . cases hy2
theorem SV(hf:FR ρ s.fr fr u){t:Nat}(hk:∀ops K0 td pend k,s.fr.todo=.qA ops K0 td pend::k->D.writer ops t=none){x:AV}(hx:s.fr.K.get t=some x):∃v,conv ρ x=some v/\fr.tmps[t]?=some v:=by
 have hb:=hf.body
 cases hA:s.fr.todo with
 |nil=>rw[hA]at hb;exact hb.2.at_ t x hx
 |cons y k=>
  rw[hA]at hb
  cases y with
  |qA ops K0 td pend=>
   obtain⟨rest,k',l,_,_,hD⟩:=hb
   exact hD.Vz t x hx fun j hj=>by rw[hk ops K0 td pend k hA]at hj;cases hj
  |_=>exact hb.2.at_ t x hx
theorem Hz{tmps:Array Value}(f:ResultVar->Sem Value)(hf1:∀t,f (.tmp t)=pure (tmps.getD t undef))(hf2:∀p t,f (.cell p t)=(do loadVar t (<- asAddr (tmps.getD p undef))))(H:WR w0 ρ h w){K:Tr AV}:∀{rs:List ResultVar} {vs:List AV},Bw P h K rs=some vs->
 (∀r∈rs,∀t,(r=.tmp t\/∃T,r=.cell t T)->∀x,K.get t=some x->∃v,conv ρ x=some v/\tmps[t]?=some v)->∃us,bX ρ vs=some us/\(rs.mapM f).run P w=.ok us w
 |[],vs,e,_=>by
  simp only[Bw,af]at e;subst e;exact⟨[],rfl,by simp[Sem.run_pure]⟩
 |.tmp t::rs,vs,e,hk=>by
  simp only[Bw,aa,ab]at e;obtain⟨x,e1,vs',e2,rfl⟩:=e;obtain⟨v,k1,k2⟩:=hk _ (aq ..) t (.inl rfl) x e1;obtain⟨us,g1,g2⟩:=Hz f hf1 hf2 H e2 fun r hr=>hk r (au _ hr)
  refine⟨v::us,n5 k1 g1,?_⟩;have:tmps.getD t undef=v:=by simp[Array.getD_eq_getD_getElem?,k2]
  simp only[List.mapM_cons,Sem.run_bind,hf1,this,Sem.run_pure,Result.andThen_ok,g2]
 |.cell p t::rs,vs,e,hk=>by
  simp only[Bw,aa,ab]at e;obtain⟨x,e1,v,e2,vs',e3,rfl⟩:=e;obtain⟨pv,k1,k2⟩:=hk _ (aq ..) p (.inr ⟨t,rfl⟩) x e1;obtain⟨us,g1,g2⟩:=Hz f hf1 hf2 H e3 fun r hr=>hk r (au _ hr)
  obtain⟨ad,v',q1,q2,q3⟩:=JF (P:=P) H k1 e2;refine⟨v'::us,n5 q2 g1,?_⟩;have:tmps.getD p undef=.pointer (some ad):=by simp[Array.getD_eq_getD_getElem?,k2,q1]
  simp only[List.mapM_cons,Sem.run_bind,hf2,this,wu,Result.andThen_ok,q3,Sem.run_pure,g2]
theorem wo{fn:Func}(H:WR w0 ρ s.h w)(hf:FR ρ s.fr fr u){vs:List AV}(e:Bw P s.h s.fr.K fn.results.toList=some vs)(hb:DT s.fr.todo fn.results.toList=true):∃v,(results fn fr.tmps).run P w=.ok v w/\conv ρ (Mr vs)=some v:=by
 obtain⟨us,g1,g2⟩:=Hz (P:=P) (tmps:=fr.tmps) (fun
  |.tmp t=>pure (fr.tmps.getD t undef)
  |.cell a t=>do loadVar t (<- asAddr (fr.tmps.getD a undef))) (fun _=>rfl) (fun _ _=>rfl) H e (fun r hr t hrt x hx=>by
   refine SV hf (fun ops K0 td pend k hA=>?_) hx;rw[hA]at hb;simp only[DT]at hb;have:=aE.1 hb r hr;rcases hrt with rfl|⟨T,rfl⟩
   . simpa using this
   . simpa using this)
 have hm:(fn.results.mapM fun
  |.tmp t=>pure (fr.tmps.getD t undef)
  |.cell a t=>do loadVar t (<- asAddr (fr.tmps.getD a undef)):Sem (Array Value)).run P w=.ok us.toArray w:=by
  rw[Array.mapM_eq_mapM_toList]
  rw[Sem.run_map,g2]
  rfl
 refine⟨if h:us.toArray.size=1 then us.toArray[0]else .tuple us.toArray,(by unfold results;rw[Sem.run_bind];exact congrArg (fun q=>Result.andThen q fun vs w'=>(pure (if h:vs.size=1 then vs[0]else .tuple vs):Sem Value).run P w') hm),?_⟩;have hl:=eA g1
 match vs,us,g1,hl with
 |[],[],_,_=>rfl
 |[x],[v],g1,_=>
  obtain⟨v',_,h1,h2,_⟩:=dy g1
  cases h1
  simpa[Mr]using h2
 |x::y::vs,v::v2::us,g1,_=>
  simp only[Mr,conv,g1,ak]
  simp
end
end Go.Proofs.YtjfkdglgecgjfaaGreat.R
namespace Go.Proofs.YtjfkdglgecgjfaaGreat.R
open Go.RowKit
section
variable {P:Program}{w0 w w':World}{cs0 cs:List Frame}{ρ ρ':lP}{h h':HS}{u us:List Nat}{fr:Frame}{s:qW}
theorem AN{x:AD}{l:List AD}{ys:List Deferred}(h:gQ ρ (x::l)=some ys):∃y l',ys=y::l'/\te ρ x=some y/\gQ ρ l=some l':=by
 simp only[gQ,aa,ab]at h;obtain⟨y,h1,l',h2,h3⟩:=h;exact⟨y,l',h3.symm,h1,h2⟩
theorem QL{m:AM}{m':FrameMode}(h:gF ρ m=some m'):gF ρ (HE m)=some (settle m'):=by
 cases m with
 |run=>simp only[gF,af]at h;subst h;rfl
 |ret=>simp only[gF,af]at h;subst h;rfl
 |KH l=>
  have h0:=h
  simp only[gF,ab]at h
  obtain⟨l',h1,rfl⟩:=h
  cases l with
  |nil=>simp only[ju,af]at h1;subst h1;exact h0
  |cons p l=>
   obtain⟨v,b⟩:=p
   simp only[ju,aa,ab]at h1
   obtain⟨v',g1,l2,g2,rfl⟩:=h1
   cases b with
   |false=>exact h0
   |true=>
    have hd:∀{l:List (AV×Bool)} {l2:List PanicEntry},ju ρ l=some l2->l2.dropWhile (!·.goexit)=[]:=by
     intro l
     induction l with
     |nil=>intro l2 e;simp only[ju,af]at e;subst e;rfl
     |cons p l ih=>
      intro l2 e
      obtain⟨q,c⟩:=p
      simp only[ju,aa,ab]at e
      obtain⟨q',_,l3,g,rfl⟩:=e
      simp only[List.dropWhile_cons,Bool.not_false,if_true]
      exact ih g
    simp only[HE,gF,settle,hd g2]
theorem QU(H:WR w0 ρ s.h w)(hf:FR ρ s.fr fr u)(hcs:Iq ρ s.cs cs us)(hF:iE ρ s.h.nx (u++us))(hm:s.fr.mode≠ .run):iW P w0 cs0 (lone fr (cs++cs0) w) (u9 P s):=by
 have hrun:fr.mode≠ .run:=fun e=>by
  have:=hf.mode;rw[e]at this
  cases hA:s.fr.mode with
  |run=>exact hm hA
  |ret=>rw[hA]at this;cases this
  |KH l=>rw[hA]at this;simp only[gF,ab]at this;obtain⟨_,_,h2⟩:=this;cases h2
 unfold u9;split
 . rename_i q ds hA;have hds:=hf.ds;rw[hA]at hds;obtain⟨d,ds',hdf,h1,h2⟩:=AN hds;simp only[te,ab]at h1;obtain⟨L,hL,rfl⟩:=h1;refine cZ fun y hy=>?_
   simp only[aa]at hy;obtain⟨x,e1,hy⟩:=hy;split at hy
   . cases hy;have hob:w.heap[L.b]?=some (.deferred (some [])):=H.obj _ _ _ e1 hL;have hget:(getObj L.b).run P w=.ok _ w:=jO hob (fun _ _ _ h=>by cases h);have hset:∀ob,(setObj L.b ob).run P w=.ok () {w with heap:=w.heap.setIfInBounds L.b ob}:=fun ob=>nN hob (fun _ _ _ h=>by cases h)
     have hk:(Instr.takeDeferred L.b).run P w=.ok [] {w with heap:=w.heap.setIfInBounds L.b (.deferred none)}:=by
      simp only[Instr.takeDeferred,Sem.run_bind,hget,Result.andThen_ok,hset,Sem.run_pure]
     have hst:=step_collected (P:=P) (cs:=cs++cs0) hrun hdf rfl hk;refine⟨_,Steps.one hst,ρ,_,cs,_,u,us,rfl,H.set e1 hL (fL w L.b (.deferred none)) (fun b hb=>fY w L.b _ b hb) (by exact mZ w _ hob),⟨hf.fn,hf.kind,hf.rd,hf.mode,?_,hf.body,hf.sus⟩,hcs,hF⟩;exact h2
   . cases hy
 . rename_i f cap args ds hA;have hds:=hf.ds;rw[hA]at hds;obtain⟨d,ds',hdf,h1,h2⟩:=AN hds;simp only[te,aa,ab]at h1;obtain⟨cap',q1,args',q2,rfl⟩:=h1;split
   . rename_i g;split
     . rename_i hen;refine cZ fun y hy=>?_
       simp only[ab]at hy;obtain⟨A',e1,rfl⟩:=hy;have hi:(invoke (.fn (.func g) cap'.toArray) args'.toArray).run P w=.ok (.enter g (args'++cap').toArray) w:=by
        have:=rn hen ((args'++cap').toArray) w;simp only[invoke];rw[<- this];congr 2;simp
       have hst:=step_defer (P:=P) (cs:=cs++cs0) hrun hdf rfl hi;exact⟨_,Steps.one hst,ρ,_,{fr with defers:=ds'}::cs,w,[],u++us,rfl,H,xj e1 (dc q2 q1),.cons ⟨hf.fn,hf.kind,hf.rd,hf.mode,h2,hf.body,hf.sus⟩ (hf.sus.resolve_left hm) hcs,hF⟩
     . trivial
   . trivial
 . rename_i hA;have hds:=hf.ds;rw[hA]at hds;simp only[gQ,af]at hds;split
   . trivial
   . rename_i l hmode;have hfm:=hf.mode;rw[hmode]at hfm;simp only[gF,ab]at hfm;obtain⟨l',g1,g2⟩:=hfm;split
     . rename_i c ccs fn hcc hfn;rw[hcc]at hcs;obtain⟨cf,cfs,u1,us1,rfl,rfl,c1,c2,c3⟩:=hcs.cons_inv;have hlv:fr.leaving P w (.panicked l'):=⟨g2.symm,hds.symm,fn,by rw[hf.fn];exact hfn⟩;have hst:=step_leave_panicked (c:=cf) (cs:=cfs++cs0) hlv;exact⟨_,Steps.one hst,ρ,_,cfs,w,u1,us1,rfl,H,J6 c1 c2 g1,c3,pg hF⟩
     . trivial
   . rename_i hmode;have hfm:=hf.mode;rw[hmode]at hfm;simp only[gF,af]at hfm;split
     . trivial
     . rename_i c ccs hcc;refine cZ fun y hy=>?_
       simp only[aa]at hy;obtain⟨fn,hfn,vs,e1,hy⟩:=hy;rw[hcc]at hcs;obtain⟨cf,cfs,u1,us1,rfl,rfl,c1,c2,c3⟩:=hcs.cons_inv;split at hy
       . rename_i hb hkind;simp only[ab]at hy;obtain⟨A',e2,rfl⟩:=hy;obtain⟨v,k1,k2⟩:=wo (P:=P) H hf e1 hb;have hlv:fr.leaving P w (.returned v):=⟨hfm.symm,hds.symm,by rw[hf.kind,hkind],fn,by rw[hf.fn];exact hfn,k1⟩;have hst:=step_leave_returned (c:=cf) (cs:=cfs++cs0) hlv;exact⟨_,Steps.one hst,ρ,_,cfs,w,u1,us1,rfl,H,(eY c1 c2 k2 e2).1,c3,pg hF⟩
       . rename_i hb hkind;cases hy;obtain⟨v,k1,k2⟩:=wo (P:=P) H hf e1 hb;have hgo:fr.going P w (.returned v):=⟨hfm.symm,hds.symm,fn,by rw[hf.fn];exact hfn,k1⟩;have hst:=step_going_returned (c:=cf) (cs:=cfs++cs0) (by rw[hf.kind,hkind]) hgo;exact⟨_,Steps.one hst,ρ,_,cfs,w,u1,us1,rfl,H,⟨c1.fn,c1.kind,c1.rd,QL c1.mode,c1.ds,c1.body,.inr c2⟩,c3,pg hF⟩
       . cases hy
theorem Ef(hX:gL P w0){m:Machine}(hS:Ir w0 cs0 s m):iW P w0 cs0 m (gG P s):=by
 obtain⟨ρ,fr,cs,w,u,us,rfl,H,hf,hcs,hF⟩:=hS;unfold gG;split
 . rename_i hmode;have:=hf.mode;rw[hmode]at this;simp only[gF,af]at this;exact Wp hX H hf hcs hF this.symm
 . rename_i hmode;exact QU H hf hcs hF fun e=>hmode e
end
end Go.Proofs.YtjfkdglgecgjfaaGreat.R
namespace Go.Proofs.YtjfkdglgecgjfaaGreat.R
open Go.RowKit
noncomputable section
structure Cx where
 e:Nat
 cs:List AF
 fn:FuncId
 n:Nat
 ds:List AD
 kind:CallKind
 rd:Option Nat
def Cx.fr(c:Cx)(K:Tr AV)(td:List AI)(md:AM):AF:=⟨c.fn,c.n,K,td,c.ds,md,c.kind,c.rd⟩
def Cx.st(c:Cx)(h:HS)(K:Tr AV)(td:List AI)(md:AM):qW:=⟨h,c.fr K td md,c.cs⟩
inductive Rt where
 |ret (h:HS) (v:AV)
 |stop (c:Cx) (h:HS) (K:Tr AV) (td:List AI) (md:AM)
abbrev cW:=Option (List Rt)
abbrev sJ:=Cx->HS->Tr AV->List AI->AM->cW
def kr(a b:Bool):Bool:=Bool.rec (motive:=fun _=>Bool) false b a
def SI(n d:Nat):List (List Nat):=match kr (Nat.beq n 512) (Nat.beq d 9)with|true=>[[0,1,103,110,111,112,113,114,115,116,117,339,340,341,342,343,344,422,426,428,466,468,469,470,477,478,479,484,486,487,488,489,490,491,492]]|false=>match kr (Nat.beq n 552) (Nat.beq d 10)with|true=>[[0,1,103,110,111,112,113,114,115,116,117,339,340,341,342,343,344,422,426,428,466,468,469,470,477,478,479,484,486,487,488,489,490,491,492,512,513,514,515,521,523,530,535,537,538,540,541,551],[0,1,103,110,111,112,113,114,115,116,117,339,340,341,342,343,344,422,426,428,466,468,469,470,477,478,479,484,486,487,488,489,490,491,492,512,513,514,515,523,528,530,535,537,538,540,541,551]]|false=>match kr (Nat.beq n 553) (Nat.beq d 10)with|true=>[[0,1,103,110,111,112,113,114,115,116,117,339,340,341,342,343,344,422,426,428,466,468,469,470,477,478,479,484,486,487,488,489,490,491,492,512,513,514,515,521,523,530,535,537,538,541,542,552],[0,1,103,110,111,112,113,114,115,116,117,339,340,341,342,343,344,422,426,428,466,468,469,470,477,478,479,484,486,487,488,489,490,491,492,512,513,514,515,523,528,530,535,537,538,541,542,552]]|false=>match kr (Nat.beq n 575) (Nat.beq d 10)with|true=>[[0,1,103,110,111,112,113,114,115,116,117,339,340,341,342,343,344,422,426,428,466,468,469,470,477,478,479,484,486,487,488,489,490,491,492,512,513,514,515,521,523,530,535,537,552,553,560,563,564,574],[0,1,103,110,111,112,113,114,115,116,117,339,340,341,342,343,344,422,426,428,466,468,469,470,477,478,479,484,486,487,488,489,490,491,492,512,513,514,515,523,528,530,535,537,552,553,560,563,564,574]]|false=>match kr (Nat.beq n 576) (Nat.beq d 10)with|true=>[[0,1,103,110,111,112,113,114,115,116,117,339,340,341,342,343,344,422,426,428,466,468,469,470,477,478,479,484,486,487,488,489,490,491,492,512,513,514,515,521,523,530,535,537,553,554,561,564,565,575],[0,1,103,110,111,112,113,114,115,116,117,339,340,341,342,343,344,422,426,428,466,468,469,470,477,478,479,484,486,487,488,489,490,491,492,512,513,514,515,523,528,530,535,537,553,554,561,564,565,575]]|false=>match kr (Nat.beq n 577) (Nat.beq d 8)with|true=>[[0,1,103,110,111,112,113,114,115,116,117,339,340,341,342,343,344,422,426,428,466,468,469,470,477,478,479,484,486,487,488,489,490,491,576]]|false=>match kr (Nat.beq n 578) (Nat.beq d 7)with|true=>[[0,1,103,110,111,112,113,114,115,116,117,339,340,341,342,343,344,422,426,428,466,468,469,470,477,478,479,484,486,487,488,489]]|false=>match kr (Nat.beq n 578) (Nat.beq d 8)with|true=>[[0,1,103,110,111,112,113,114,115,116,117,339,340,341,342,343,344,422,426,428,466,468,469,470,477,478,479,484,486,487,488,489,490,491,577]]|false=>match kr (Nat.beq n 615) (Nat.beq d 9)with|true=>[[0,1,103,110,111,112,113,114,115,116,117,339,340,341,342,343,344,422,426,428,466,468,469,470,477,478,479,484,486,487,488,489,579,580,581,582,608]]|false=>match kr (Nat.beq n 623) (Nat.beq d 9)with|true=>[[0,1,103,110,111,112,113,114,115,116,117,339,340,341,342,343,344,422,426,428,466,468,469,470,477,478,479,484,486,487,488,489,579,580,581,582,608,615,616,617,618]]|false=>[]
def SJ(n d:Nat):Bool:=match kr (Nat.beq n 517) (Nat.beq d 10)with|true=>true|false=>false
def mR{α β:Type}(x:Option α)(f:α->Option β):Option β:=Option.rec (motive:=fun _=>Option β) none f x
def yN{α β γ:Type}(f:α->β->Option γ)(x:Option α)(y:Option β):Option γ:=Option.rec (motive:=fun _=>Option γ) none (fun u=>Option.rec (motive:=fun _=>Option γ) none (f u) y) x
def uA(x:Operand):Tr AV->Option AV:=Operand.rec (motive:=fun _=>Tr AV->Option AV)
 (fun t K=>rB (A1 t) K) (fun v _=>some (E5 v)) (fun g _=>some (.p (.pointer (some ⟨g,0,none⟩)))) (fun f _=>some (.fn (.func f) [] [])) x
def mkS(k:IntKind)(lim n:Nat):Option AV:=Bool.rec (motive:=fun _=>Option AV) none (xy k n) (Nat.ble (Nat.succ n) lim)
def mkU(k:IntKind)(m n:Nat):Option AV:=xy k (Nat.mod n m)
def qL(k:IntKind):Nat->Option AV:=IntKind.rec (motive:=fun _=>Nat->Option AV)
 (mkS .i8 128) (mkS .i16 32768) (mkS .i32 2147483648) (mkS .i64 9223372036854775808) (mkU .u8 256) (mkU .u16 65536) (mkU .u32 4294967296) (mkU .u64 18446744073709551616) k
def KY(k:IntKind):Nat:=IntKind.rec (motive:=fun _=>Nat) 8 16 32 64 8 16 32 64 k
def pZ(k:IntKind):Nat:=IntKind.rec (motive:=fun _=>Nat) 0 1 2 3 4 5 6 7 k
def Cn(b:Bool):Option AV:=Bool.rec (motive:=fun _=>Option AV) (some (.p (.bool false))) (some (.p (.bool true))) b
def PK(b:Bool):Option AV:=Bool.rec (motive:=fun _=>Option AV) (some (.p (.bool true))) (some (.p (.bool false))) b
def Dr(op:BinOp):IntKind->Nat->Nat->Option AV:=BinOp.rec (motive:=fun _=>IntKind->Nat->Nat->Option AV)
 (fun k a b=>qL k (Nat.add a b))
 (fun k a b=>Bool.rec (motive:=fun _=>Option AV) none (qL k (Nat.sub a b)) (Nat.ble b a))
 (fun k a b=>qL k (Nat.mul a b))
 (fun k a b=>Nat.rec (motive:=fun _=>Option AV) none (fun _ _=>qL k (Nat.div a b)) b)
 (fun k a b=>Nat.rec (motive:=fun _=>Option AV) none (fun _ _=>xy k (Nat.mod a b)) b)
 (fun k a b=>qL k (Nat.land a b))
 (fun k a b=>qL k (Nat.lor a b))
 (fun k a b=>qL k (Nat.xor a b))
 (fun k a b=>Bool.rec (motive:=fun _=>Option AV) none (qL k (Nat.mul a (Nat.pow 2 b))) (Nat.ble b (KY k)))
 (fun k a b=>Bool.rec (motive:=fun _=>Option AV) none (xy k (Nat.div a (Nat.pow 2 b))) (Nat.ble b (KY k)))
 (fun _ _ _=>none)
 (fun _ a b=>Cn (Nat.beq a b))
 (fun _ a b=>PK (Nat.beq a b))
 (fun _ a b=>Cn (Nat.ble (Nat.succ a) b))
 (fun _ a b=>Cn (Nat.ble a b))
 (fun _ a b=>Cn (Nat.ble (Nat.succ b) a))
 (fun _ a b=>Cn (Nat.ble b a)) op
def shB(op:BinOp):Bool:=BinOp.rec (motive:=fun _=>Bool) false false false false false false false false true true false false false false false false false op
def aan(op:BinOp)(k:IntKind)(a:Nat)(l:IntKind)(b:Nat):Option AV:=Bool.rec (motive:=fun _=>Option AV)
 (Bool.rec (motive:=fun _=>Option AV) none (Dr op k a b) (Nat.beq (pZ k) (pZ l))) (Dr op k a b) (shB op)
def abO(u:Value):(IntKind->Int->Option AV)->Option AV:=Value.rec (motive_1:=fun _=>(IntKind->Int->Option AV)->Option AV) (motive_2:=fun _=>PUnit) (motive_3:=fun _=>PUnit) (fun _ _=>none) (fun k i q=>q k i) (fun _ _ _=>none) (fun _ _ _ _=>none) (fun _ _=>none) (fun _ _=>none) (fun _ _ _ _=>none) (fun _ _=>none) (fun _ _=>none) (fun _ _ _ _ _ _=>none) (fun _=>none) (fun _ _ _ _=>none) (fun _=>none) (fun _ _ _=>none) (fun _ _ _=>none) (fun _ _=>⟨⟩) ⟨⟩ (fun _ _ _ _=>⟨⟩) u
def toI(x:AV):(IntKind->Int->Option AV)->Option AV:=AV.rec (motive_1:=fun _=>(IntKind->Int->Option AV)->Option AV) (motive_2:=fun _=>PUnit) (fun u q=>abO u q) (fun _ _ _=>none) (fun _ _ _ _ _ _=>none) (fun _ _=>none) (fun _ _ _ _ _ _=>none) (fun _ _=>none) (fun _ _ _ _=>none) (fun _ _ _=>none) (fun _ _ _=>none) ⟨⟩ (fun _ _ _ _=>⟨⟩) x
def L7(i:Int):(Nat->Option AV)->Option AV:=Int.rec (motive:=fun _=>(Nat->Option AV)->Option AV) (fun n q=>q n) (fun _ _=>none) i
def RJ(op:BinOp)(k:IntKind)(a:Nat)(l:IntKind)(j:Int):Option AV:=L7 j (aan op k a l)
def XF(op:BinOp)(y:AV)(k:IntKind)(i:Int):Option AV:=L7 i fun a=>toI y (RJ op k a)
def aao(op:BinOp)(x y:AV):Option AV:=toI x (XF op y)
def abN(u:Value):(Bool->Option AV)->Option AV:=Value.rec (motive_1:=fun _=>(Bool->Option AV)->Option AV) (motive_2:=fun _=>PUnit) (motive_3:=fun _=>PUnit) (fun b q=>q b) (fun _ _ _=>none) (fun _ _ _=>none) (fun _ _ _ _=>none) (fun _ _=>none) (fun _ _=>none) (fun _ _ _ _=>none) (fun _ _=>none) (fun _ _=>none) (fun _ _ _ _ _ _=>none) (fun _=>none) (fun _ _ _ _=>none) (fun _=>none) (fun _ _ _=>none) (fun _ _ _=>none) (fun _ _=>⟨⟩) ⟨⟩ (fun _ _ _ _=>⟨⟩) u
def toB(x:AV):(Bool->Option AV)->Option AV:=AV.rec (motive_1:=fun _=>(Bool->Option AV)->Option AV) (motive_2:=fun _=>PUnit) (fun u q=>abN u q) (fun _ _ _=>none) (fun _ _ _ _ _ _=>none) (fun _ _=>none) (fun _ _ _ _ _ _=>none) (fun _ _=>none) (fun _ _ _ _=>none) (fun _ _ _=>none) (fun _ _ _=>none) ⟨⟩ (fun _ _ _ _=>⟨⟩) x
def abl(k:IntKind)(i:Int):Option AV:=Ji k (k.wrap (0-i))
def unV(op:UnOp):AV->Option AV:=UnOp.rec (motive:=fun _=>AV->Option AV) (fun x=>toI x abl) (fun _=>none) (fun x=>toB x PK) (fun _=>none) op
def cvt(P:Program)(s d:TypeId):Option IntKind:=match P.underlying s,P.underlying d with
 |some _,some (.int k)=>some k
 |_,_=>none
def cvV(q:Option IntKind):AV->Option AV:=Option.rec (motive:=fun _=>AV->Option AV) (fun _=>none) (fun k x=>toI x fun _ i=>Int.rec (motive:=fun _=>Option AV) (qL k) (fun m=>Ji k (k.wrap (.negSucc m))) i) q
def toP(x:AV):(Nat->Nat->Option AV)->Option AV:=AV.rec (motive_1:=fun _=>(Nat->Nat->Option AV)->Option AV) (motive_2:=fun _=>PUnit) (fun _ _=>none) (fun o f q=>q o f) (fun _ _ _ _ _ _=>none) (fun _ _=>none) (fun _ _ _ _ _ _=>none) (fun _ _=>none) (fun _ _ _ _=>none) (fun _ _ _=>none) (fun _ _ _=>none) ⟨⟩ (fun _ _ _ _=>⟨⟩) x
def WJ(l:List AV):Nat->Option AV:=List.rec (motive:=fun _=>Nat->Option AV) (fun _=>none) (fun x _ ih n=>Nat.rec (motive:=fun _=>Option AV) (some x) (fun m _=>ih m) n) l
def Z9(q:Option (Bool×Nat)):List AV->Nat->Option AV:=Option.rec (motive:=fun _=>List AV->Nat->Option AV) (fun _ _=>none)
 (fun q l f=>Bool.rec (motive:=fun _=>Option AV) (WJ l f) (mR (dG l f q.2) fun l=>some (.agg l)) q.1) q
def ldC(q:Option (Bool×Nat))(f:Nat)(x:AO):Option AV:=AO.rec (motive:=fun _=>Option (Bool×Nat)->Nat->Option AV) (fun l _ q f=>Z9 q l f) (fun _ _ _ _=>none) (fun _ _ _ _ _ _=>none) (fun _ _ _ _=>none) (fun _ _ _ _ _ _ _ _ _ _ _=>none) (fun _ _ _=>none) x q f
def ldV(q:Option (Bool×Nat))(h:HS)(x:AV):Option AV:=toP x fun o f=>mR (rB (A1 o) h.H) (ldC q f)
def onV(u:Value):Bool:=Value.rec (motive_1:=fun _=>Bool) (motive_2:=fun _=>PUnit) (motive_3:=fun _=>PUnit) (fun _=>true) (fun _ _=>true) (fun _ _=>true) (fun _ _ _=>true) (fun _=>true) (fun _=>true) (fun _ _ _=>true) (fun _=>true) (fun _=>true) (fun _ _ _ _ _=>true) (true) (fun _ _ _=>true) (true) (fun _ _=>false) (fun _ _=>false) (fun _ _=>⟨⟩) ⟨⟩ (fun _ _ _ _=>⟨⟩) u
def onA(x:AV):Bool:=AV.rec (motive_1:=fun _=>Bool) (motive_2:=fun _=>PUnit) (fun u=>onV u) (fun _ _=>true) (fun _ _ _ _ _=>true) (fun _=>true) (fun _ _ _ _ _=>true) (fun _=>true) (fun _ _ _=>true) (fun _ _=>false) (fun _ _=>false) ⟨⟩ (fun _ _ _ _=>⟨⟩) x
def Xg(v:AV)(l:List AV):Nat->Option (List AV):=List.rec (motive:=fun _=>Nat->Option (List AV)) (fun _=>none)
 (fun x l ih n=>Nat.rec (motive:=fun _=>Option (List AV)) (some (v::l)) (fun m _=>mR (ih m) fun l=>some (x::l)) n) l
def Xq(P:Program)(t:TypeId):Bool:=match P.info? t with
 |some i=>Nat.beq 1 i.size
 |none=>false
def stO(h:HS)(o:Nat)(T:TypeId)(l:List AV):Option HS:=some ⟨EX (A1 o) (some (.cells l T)) h.H,h.nx⟩
def stC(h:HS)(v:AV)(o f:Nat)(x:AO):Option HS:=AO.rec (motive:=fun _=>HS->AV->Nat->Nat->Option HS) (fun l T h v o f=>mR (Xg v l f) (stO h o T)) (fun _ _ _ _ _ _=>none) (fun _ _ _ _ _ _ _ _=>none) (fun _ _ _ _ _ _=>none) (fun _ _ _ _ _ _ _ _ _ _ _ _ _=>none) (fun _ _ _ _ _=>none) x h v o f
def toPH(x:AV):(Nat->Nat->Option HS)->Option HS:=AV.rec (motive_1:=fun _=>(Nat->Nat->Option HS)->Option HS) (motive_2:=fun _=>PUnit) (fun _ _=>none) (fun o f q=>q o f) (fun _ _ _ _ _ _=>none) (fun _ _=>none) (fun _ _ _ _ _ _=>none) (fun _ _=>none) (fun _ _ _ _=>none) (fun _ _ _=>none) (fun _ _ _=>none) ⟨⟩ (fun _ _ _ _=>⟨⟩) x
def stV(h:HS)(z:Bool)(a v:AV):Option HS:=Bool.rec (motive:=fun _=>Option HS) none
 (Bool.rec (motive:=fun _=>Option HS) none (toPH a fun o f=>mR (rB (A1 o) h.H) (stC h v o f)) (onA v)) z
def YL(P:Program)(t:TypeId)(i:Nat):Option Nat:=match P.underlying t with
 |some (.struct fs)=>(fs[i]?).bind fun fl=>(P.info? fl.type).bind fun inf=>match Nat.beq inf.size 0 with
  |false=>some fl.offset
  |true=>none
 |_=>none
def Qb(o f:Nat):Option AV:=Nat.rec (motive:=fun _=>Option AV) (some (.ptr o 0)) (fun m _=>some (.ptr o (Nat.succ m))) f
def faV(q:Option Nat)(x:AV):Option AV:=mR q fun d=>toP x fun o f=>Qb o (Nat.add f d)
def YM(P:Program)(t:TypeId)(i:Nat):Option (Nat×Option (Bool×Nat)):=match P.underlying t with
 |some (.struct fs)=>(fs[i]?).map fun fl=>(fl.offset,fD P fl.type)
 |_=>none
def toG(x:AV):(List AV->Option AV)->Option AV:=AV.rec (motive_1:=fun _=>(List AV->Option AV)->Option AV) (motive_2:=fun _=>PUnit) (fun _ _=>none) (fun _ _ _=>none) (fun _ _ _ _ _ _=>none) (fun _ _=>none) (fun _ _ _ _ _ _=>none) (fun _ _=>none) (fun _ _ _ _=>none) (fun l _ q=>q l) (fun _ _ _=>none) ⟨⟩ (fun _ _ _ _=>⟨⟩) x
def toT(x:AV):(List AV->Option AV)->Option AV:=AV.rec (motive_1:=fun _=>(List AV->Option AV)->Option AV) (motive_2:=fun _=>PUnit) (fun _ _=>none) (fun _ _ _=>none) (fun _ _ _ _ _ _=>none) (fun _ _=>none) (fun _ _ _ _ _ _=>none) (fun _ _=>none) (fun _ _ _ _=>none) (fun _ _ _=>none) (fun l _ q=>q l) ⟨⟩ (fun _ _ _ _=>⟨⟩) x
def fiV(q:Option (Nat×Option (Bool×Nat)))(x:AV):Option AV:=mR q fun q=>toG x fun l=>Z9 q.2 l q.1
def exV(i:Nat)(x:AV):Option AV:=toT x fun l=>WJ l i
def YY(P:Program)(t:TypeId):Option (Option Nat×Nat):=match P.underlying t with
 |some (.array n e)=>(P.info? e).map fun i=>(some n,i.size)
 |some (.slice e)=>(P.info? e).map fun i=>(none,i.size)
 |_=>none
def iaP(n z:Nat)(x:AV)(i:Nat):Option AV:=toP x fun o f=>Bool.rec (motive:=fun _=>Option AV) none (Qb o (Nat.add f (Nat.mul i z))) (Nat.ble (Nat.succ i) n)
def toS(x:AV):(Nat->Nat->Nat->Option AV)->Option AV:=AV.rec (motive_1:=fun _=>(Nat->Nat->Nat->Option AV)->Option AV) (motive_2:=fun _=>PUnit) (fun _ _=>none) (fun _ _ _=>none) (fun o f n _ _ q=>q o f n) (fun _ _=>none) (fun _ _ _ _ _ _=>none) (fun _ _=>none) (fun _ _ _ _=>none) (fun _ _ _=>none) (fun _ _ _=>none) ⟨⟩ (fun _ _ _ _=>⟨⟩) x
def iaS(z:Nat)(x:AV)(i:Nat):Option AV:=toS x fun o f n=>Bool.rec (motive:=fun _=>Option AV) none (Qb o (Nat.add f (Nat.mul i z))) (Nat.ble (Nat.succ i) n)
def iaQ(q:Option Nat):Nat->AV->Nat->Option AV:=Option.rec (motive:=fun _=>Nat->AV->Nat->Option AV) iaS iaP q
def iaV(q:Option (Option Nat×Nat))(x y:AV):Option AV:=mR q fun q=>toI y fun _ i=>L7 i (iaQ q.1 q.2 x)
def Y0(P:Program)(t:TypeId):Option (Nat×Nat×Option (Bool×Nat)):=match P.underlying t with
 |some (.array n e)=>(P.info? e).map fun i=>(n,i.size,fD P e)
 |_=>none
def ixV(q:Option (Nat×Nat×Option (Bool×Nat)))(x y:AV):Option AV:=mR q fun q=>toI y fun _ i=>L7 i fun i=>toG x fun l=>
 Bool.rec (motive:=fun _=>Option AV) none (Z9 q.2.2 l (Nat.mul i q.2.1)) (Nat.ble (Nat.succ i) q.1)
def ncV(x:AV):Option AV:=AV.rec (motive_1:=fun _=>Option AV) (motive_2:=fun _=>PUnit) (fun _=>none) (fun o f=>some (.ptr o f)) (fun _ _ _ _ _=>none) (fun _=>none) (fun _ _ _ _ _=>none) (fun _=>none) (fun _ _ _=>none) (fun _ _=>none) (fun _ _=>none) ⟨⟩ (fun _ _ _ _=>⟨⟩) x
inductive RV where
 |val (v:AV)
 |la (h:HS)
 |enter (g:FuncId) (args:List AV)
 |ext (v:AV) (g:FuncId) (args:List AV)
 |dJ
def vR(x:Option AV):RV:=Option.rec (motive:=fun _=>RV) .dJ .val x
def uR(x:Option HS):RV:=Option.rec (motive:=fun _=>RV) .dJ .la x
inductive CP where
 |fn (g:FuncId) (args:List Operand)
 |ext (g:FuncId) (args:List Operand)
 |len (x:Operand)
 |no
def TA(P:Program)(c:Call):CP:=match c.callee with
 |.value (.func g)=>(match pc P g with|true=>(match YI g with|true=>.ext g c.args.toList|false=>.fn g c.args.toList)|false=>.no)
 |.builtin .len=>(match c.argTypes.toList,c.args.toList with
  |t::_,[x]=>(match P.underlying t with|some (.slice _)=>.len x|_=>.no)
  |_,_=>.no)
 |_=>.no
def GM(l:List Operand):Tr AV->Option (List AV):=List.rec (motive:=fun _=>Tr AV->Option (List AV)) (fun _=>some []) (fun x _ ih K=>yN (fun v l=>some (v::l)) (uA x K) (ih K)) l
def enR(g:FuncId)(x:Option (List AV)):RV:=Option.rec (motive:=fun _=>RV) .dJ (.enter g) x
def leV(x:AV):Option AV:=toS x fun _ _ n=>xy .i64 n
def aaJ(g:FuncId)(l:List AV)(x:Option AV):RV:=Option.rec (motive:=fun _=>RV) .dJ (fun v=>.ext v g l) x
def aaK(h:HS)(g:FuncId)(x:Option (List AV)):RV:=Option.rec (motive:=fun _=>RV) .dJ (fun l=>aaJ g l (Bq g h l)) x
def clR(q:CP):HS->Tr AV->RV:=CP.rec (motive:=fun _=>HS->Tr AV->RV) (fun g l _ K=>enR g (GM l K)) (fun g l h K=>aaK h g (GM l K)) (fun x _ K=>vR (mR (uA x K) leV)) (fun _ _=>.dJ) q
def WU(o:Op):Program->HS->Tr AV->RV:=Op.rec (motive:=fun _=>Program->HS->Tr AV->RV)
 (fun x _ _ K=>vR (uA x K))
 (fun x _ _ K=>vR (uA x K))
 (fun _ _ _ _ _ _=>.dJ)
 (fun _ _ _ _=>.dJ)
 (fun _ _ _ _ _=>.dJ)
 (fun _ _ _ _ _=>.dJ)
 (fun _ _ _ _ _ _=>.dJ)
 (fun _ _ _ _ _ _ _=>.dJ)
 (fun t x P h K=>vR (mR (uA x K) (ldV (fD P t) h)))
 (fun t x y P h K=>uR (mR (uA x K) (fun a=>mR (uA y K) (stV h (Xq P t) a))))
 (fun _ _ _ _=>.dJ)
 (fun _ _ _ _=>.dJ)
 (fun x _ _ K=>vR (mR (uA x K) ncV))
 (fun op _ x y _ _ _ K=>vR (yN (aao op) (uA x K) (uA y K)))
 (fun op _ x _ _ K=>vR (mR (uA x K) (unV op)))
 (fun s d x P _ K=>vR (mR (uA x K) (cvV (cvt P s d))))
 (fun _ _ _ _ _=>.dJ)
 (fun _ _ _ _ _=>.dJ)
 (fun _ _ _ _ _ _=>.dJ)
 (fun _ _ _ _ _=>.dJ)
 (fun _ _ _ _ _=>.dJ)
 (fun _ _ _ _ _ _=>.dJ)
 (fun _ _ _ _ _ _ _ _=>.dJ)
 (fun t x i P _ K=>vR (mR (uA x K) (faV (YL P t i))))
 (fun t x i P _ K=>vR (mR (uA x K) (fiV (YM P t i))))
 (fun t x y P _ K=>vR (yN (iaV (YY P t)) (uA x K) (uA y K)))
 (fun t x y P _ K=>vR (yN (ixV (Y0 P t)) (uA x K) (uA y K)))
 (fun _ _ _ _ _ _ _=>.dJ)
 (fun _ _ _ _ _ _ _=>.dJ)
 (fun _ _ _ _ _ _=>.dJ)
 (fun _ _ _ _ _ _ _=>.dJ)
 (fun _ _ _ _ _=>.dJ)
 (fun _ _ _ _ _=>.dJ)
 (fun _ _ _ _=>.dJ)
 (fun _ _ _ _ _ _ _=>.dJ)
 (fun x i _ _ K=>vR (mR (uA x K) (exV i)))
 (fun c P h K=>clR (TA P c) h K)
 (fun _ _ _ _=>.dJ)
 (fun _ _ _ _=>.dJ)
 (fun _ _ _ _=>.dJ)
 (fun _ _ _ _ _=>.dJ)
 (fun _ _ _ _ _ _=>.dJ)
 (fun _ _ _ _ _=>.dJ) o
def Z7(a b:Bool):Bool:=Bool.rec (motive:=fun _=>Bool) (Bool.rec (motive:=fun _=>Bool) true false b) b a
def eqI(i j:Int):Bool:=Int.rec (motive:=fun _=>Bool) (fun a=>Int.rec (motive:=fun _=>Bool) (fun b=>Nat.beq a b) (fun _=>false) j) (fun _=>false) i
def vI(u:Value):(IntKind->Int->Bool)->Bool:=Value.rec (motive_1:=fun _=>(IntKind->Int->Bool)->Bool) (motive_2:=fun _=>PUnit) (motive_3:=fun _=>PUnit) (fun _ _=>false) (fun k i q=>q k i) (fun _ _ _=>false) (fun _ _ _ _=>false) (fun _ _=>false) (fun _ _=>false) (fun _ _ _ _=>false) (fun _ _=>false) (fun _ _=>false) (fun _ _ _ _ _ _=>false) (fun _=>false) (fun _ _ _ _=>false) (fun _=>false) (fun _ _ _=>false) (fun _ _ _=>false) (fun _ _=>⟨⟩) ⟨⟩ (fun _ _ _ _=>⟨⟩) u
def vB(u:Value):(Bool->Bool)->Bool:=Value.rec (motive_1:=fun _=>(Bool->Bool)->Bool) (motive_2:=fun _=>PUnit) (motive_3:=fun _=>PUnit) (fun b q=>q b) (fun _ _ _=>false) (fun _ _ _=>false) (fun _ _ _ _=>false) (fun _ _=>false) (fun _ _=>false) (fun _ _ _ _=>false) (fun _ _=>false) (fun _ _=>false) (fun _ _ _ _ _ _=>false) (fun _=>false) (fun _ _ _ _=>false) (fun _=>false) (fun _ _ _=>false) (fun _ _ _=>false) (fun _ _=>⟨⟩) ⟨⟩ (fun _ _ _ _=>⟨⟩) u
def we{α:Type}(a:Option α):Bool:=Option.rec (motive:=fun _=>Bool) true (fun _=>false) a
def vPn(u:Value):Bool:=Value.rec (motive_1:=fun _=>Bool) (motive_2:=fun _=>PUnit) (motive_3:=fun _=>PUnit) (fun _=>false) (fun _ _=>false) (fun _ _=>false) (fun _ _ _=>false) (fun _=>false) (fun a=>we a) (fun _ _ _=>false) (fun _=>false) (fun _=>false) (fun _ _ _ _ _=>false) (false) (fun _ _ _=>false) (false) (fun _ _=>false) (fun _ _=>false) (fun _ _=>⟨⟩) ⟨⟩ (fun _ _ _ _=>⟨⟩) u
def vSn(u:Value):(Nat->Nat->Bool)->Bool:=Value.rec (motive_1:=fun _=>(Nat->Nat->Bool)->Bool) (motive_2:=fun _=>PUnit) (motive_3:=fun _=>PUnit) (fun _ _=>false) (fun _ _ _=>false) (fun _ _ _=>false) (fun _ _ _ _=>false) (fun _ _=>false) (fun _ _=>false) (fun a n c q=>kr (we a) (q n c)) (fun _ _=>false) (fun _ _=>false) (fun _ _ _ _ _ _=>false) (fun _=>false) (fun _ _ _ _=>false) (fun _=>false) (fun _ _ _=>false) (fun _ _ _=>false) (fun _ _=>⟨⟩) ⟨⟩ (fun _ _ _ _=>⟨⟩) u
def vMn(u:Value):Bool:=Value.rec (motive_1:=fun _=>Bool) (motive_2:=fun _=>PUnit) (motive_3:=fun _=>PUnit) (fun _=>false) (fun _ _=>false) (fun _ _=>false) (fun _ _ _=>false) (fun _=>false) (fun _=>false) (fun _ _ _=>false) (fun r=>we r) (fun _=>false) (fun _ _ _ _ _=>false) (false) (fun _ _ _=>false) (false) (fun _ _=>false) (fun _ _=>false) (fun _ _=>⟨⟩) ⟨⟩ (fun _ _ _ _=>⟨⟩) u
def vFn(u:Value):Bool:=Value.rec (motive_1:=fun _=>Bool) (motive_2:=fun _=>PUnit) (motive_3:=fun _=>PUnit) (fun _=>false) (fun _ _=>false) (fun _ _=>false) (fun _ _ _=>false) (fun _=>false) (fun _=>false) (fun _ _ _=>false) (fun _=>false) (fun _=>false) (fun _ _ _ _ _=>false) (true) (fun _ _ _=>false) (false) (fun _ _=>false) (fun _ _=>false) (fun _ _=>⟨⟩) ⟨⟩ (fun _ _ _ _=>⟨⟩) u
def vIn(u:Value):Bool:=Value.rec (motive_1:=fun _=>Bool) (motive_2:=fun _=>PUnit) (motive_3:=fun _=>PUnit) (fun _=>false) (fun _ _=>false) (fun _ _=>false) (fun _ _ _=>false) (fun _=>false) (fun _=>false) (fun _ _ _=>false) (fun _=>false) (fun _=>false) (fun _ _ _ _ _=>false) (false) (fun _ _ _=>false) (true) (fun _ _=>false) (fun _ _=>false) (fun _ _=>⟨⟩) ⟨⟩ (fun _ _ _ _=>⟨⟩) u
def eqU(u:Value):Value->Bool:=Value.rec (motive_1:=fun _=>Value->Bool) (motive_2:=fun _=>PUnit) (motive_3:=fun _=>PUnit) (fun b w=>vB w (Z7 b)) (fun k i w=>vI w fun l j=>kr (Nat.beq (pZ k) (pZ l)) (eqI i j)) (fun _ _ _=>false) (fun _ _ _ _=>false) (fun _ _=>false) (fun a w=>kr (we a) (vPn w)) (fun a n c w=>kr (we a) (vSn w fun m d=>kr (Nat.beq n m) (Nat.beq c d))) (fun r w=>kr (we r) (vMn w)) (fun _ _=>false) (fun _ _ _ _ _ _=>false) (fun w=>vFn w) (fun _ _ _ _=>false) (fun w=>vIn w) (fun _ _ _=>false) (fun _ _ _=>false) (fun _ _=>⟨⟩) ⟨⟩ (fun _ _ _ _=>⟨⟩) u
def xP(x:AV):(Value->Bool)->Bool:=AV.rec (motive_1:=fun _=>(Value->Bool)->Bool) (motive_2:=fun _=>PUnit) (fun u q=>q u) (fun _ _ _=>false) (fun _ _ _ _ _ _=>false) (fun _ _=>false) (fun _ _ _ _ _ _=>false) (fun _ _=>false) (fun _ _ _ _=>false) (fun _ _ _=>false) (fun _ _ _=>false) ⟨⟩ (fun _ _ _ _=>⟨⟩) x
def xR(x:AV):(Nat->Nat->Bool)->Bool:=AV.rec (motive_1:=fun _=>(Nat->Nat->Bool)->Bool) (motive_2:=fun _=>PUnit) (fun _ _=>false) (fun o f q=>q o f) (fun _ _ _ _ _ _=>false) (fun _ _=>false) (fun _ _ _ _ _ _=>false) (fun _ _=>false) (fun _ _ _ _=>false) (fun _ _ _=>false) (fun _ _ _=>false) ⟨⟩ (fun _ _ _ _=>⟨⟩) x
def xS(x:AV):(Nat->Nat->Nat->Option Nat->Nat->Bool)->Bool:=AV.rec (motive_1:=fun _=>(Nat->Nat->Nat->Option Nat->Nat->Bool)->Bool) (motive_2:=fun _=>PUnit) (fun _ _=>false) (fun _ _ _=>false) (fun o f n c z q=>q o f n c z) (fun _ _=>false) (fun _ _ _ _ _ _=>false) (fun _ _=>false) (fun _ _ _ _=>false) (fun _ _ _=>false) (fun _ _ _=>false) ⟨⟩ (fun _ _ _ _=>⟨⟩) x
def xA(x:AV):(List AV->Bool)->Bool:=AV.rec (motive_1:=fun _=>(List AV->Bool)->Bool) (motive_2:=fun _=>PUnit) (fun _ _=>false) (fun _ _ _=>false) (fun _ _ _ _ _ _=>false) (fun _ _=>false) (fun _ _ _ _ _ _=>false) (fun _ _=>false) (fun _ _ _ _=>false) (fun l _ q=>q l) (fun _ _ _=>false) ⟨⟩ (fun _ _ _ _=>⟨⟩) x
def xT(x:AV):(List AV->Bool)->Bool:=AV.rec (motive_1:=fun _=>(List AV->Bool)->Bool) (motive_2:=fun _=>PUnit) (fun _ _=>false) (fun _ _ _=>false) (fun _ _ _ _ _ _=>false) (fun _ _=>false) (fun _ _ _ _ _ _=>false) (fun _ _=>false) (fun _ _ _ _=>false) (fun _ _ _=>false) (fun l _ q=>q l) ⟨⟩ (fun _ _ _ _=>⟨⟩) x
def abn(l:List AV):Bool:=List.rec (motive:=fun _=>Bool) true (fun _ _ _=>false) l
def xM(x:AV):(Nat->Bool)->Bool:=AV.rec (motive_1:=fun _=>(Nat->Bool)->Bool) (motive_2:=fun _=>PUnit) (fun _ _=>false) (fun _ _ _=>false) (fun _ _ _ _ _ _=>false) (fun o q=>q o) (fun _ _ _ _ _ _=>false) (fun _ _=>false) (fun _ _ _ _=>false) (fun _ _ _=>false) (fun _ _ _=>false) ⟨⟩ (fun _ _ _ _=>⟨⟩) x
def Jc(x:AV):AV->Bool:=AV.rec (motive_1:=fun _=>AV->Bool) (motive_2:=fun _=>List AV->Bool) (fun u y=>xP y (eqU u)) (fun o f y=>xR y fun p g=>kr (Nat.beq o p) (Nat.beq f g)) (fun o f n c z y=>xS y fun p g m d w=>kr (Nat.beq o p) (kr (Nat.beq f g) (kr (Nat.beq n m) (kr (eqN c d) (Nat.beq z w))))) (fun o y=>xM y (Nat.beq o)) (fun _ _ _ _ _ _=>false) (fun _ _=>false) (fun _ _ _ _=>false) (fun _ il y=>xA y il) (fun _ il y=>xT y il) abn (fun _ _ ix il l=>List.rec (motive:=fun _=>Bool) false (fun y l _=>kr (ix y) (il l)) l) x
def Oq(l m:List AV):Bool:=List.rec (motive:=fun _=>List AV->Bool) abn (fun x _ ih m=>List.rec (motive:=fun _=>Bool) false (fun y m _=>kr (Jc x y) (ih m)) m) l m
def NN(l m:List (AV×AV×Nat)):Bool:=List.rec (motive:=fun _=>List (AV×AV×Nat)->Bool) (fun m=>List.rec (motive:=fun _=>Bool) true (fun _ _ _=>false) m)
 (fun x _ ih m=>List.rec (motive:=fun _=>Bool) false (fun y m _=>kr (kr (Jc x.1 y.1) (kr (Jc x.2.1 y.2.1) (Nat.beq x.2.2 y.2.2))) (ih m)) m) l m
def yC(x:AO):(List AV->TypeId->Bool)->Bool:=AO.rec (motive:=fun _=>(List AV->TypeId->Bool)->Bool) (fun l T q=>q l T) (fun _ _ _=>false) (fun _ _ _ _ _=>false) (fun _ _ _=>false) (fun _ _ _ _ _ _ _ _ _ _=>false) (fun _ _=>false) x
def yM(x:AO):(List (AV×AV×Nat)->Nat->Bool)->Bool:=AO.rec (motive:=fun _=>(List (AV×AV×Nat)->Nat->Bool)->Bool) (fun _ _ _=>false) (fun es c q=>q es c) (fun _ _ _ _ _=>false) (fun _ _ _=>false) (fun _ _ _ _ _ _ _ _ _ _=>false) (fun _ _=>false) x
def eqO(x y:AO):Bool:=AO.rec (motive:=fun _=>AO->Bool) (fun l T w=>yC w fun m U=>kr (Oq l m) (Nat.beq T U)) (fun es c w=>yM w fun fs d=>kr (NN es fs) (Nat.beq c d)) (fun _ _ _ _ _=>false) (fun _ _ _=>false) (fun _ _ _ _ _ _ _ _ _ _=>false) (fun _ _=>false) x y
def ZB(x:Option AO)(y:Option AO):Bool:=Option.rec (motive:=fun _=>Bool) false (fun a=>Option.rec (motive:=fun _=>Bool) false (fun b=>eqO a b) y) x
def Bz(ids:List Nat)(H:Tr AO):Tr AO:=List.rec (motive:=fun _=>Tr AO) .nil (fun o _ t=>EX (A1 o) (rB (A1 o) H) t) ids
def N5(ids:List Nat)(H G:Tr AO):Bool:=List.rec (motive:=fun _=>Bool) true (fun o _ r=>kr (ZB (rB (A1 o) H) (rB (A1 o) G)) r) ids
def LW(a b:Nat):Nat:=Bool.rec (motive:=fun _=>Nat) a b (Nat.ble a b)
def allEq(ids:List Nat)(q:HS×AV)(l:List (HS×AV)):Bool:=List.rec (motive:=fun _=>Bool) true (fun p _ r=>kr (Jc p.2 q.2) (kr (N5 ids p.1.H q.1.H) r)) l
def JH(l:List (HS×AV)):Nat:=List.rec (motive:=fun _=>Nat) 0 (fun p _ r=>LW p.1.nx r) l
def Zz(l:List (HS×AV))(q:HS×AV)(L:List (List Nat)):List (HS×AV):=List.rec (motive:=fun _=>List (HS×AV)) l (fun ids _ ih=>Bool.rec (motive:=fun _=>List (HS×AV)) ih [(⟨Bz ids q.1.H,JH l⟩,q.2)] (allEq ids q l)) L
def G5(l:List AF):Nat:=List.rec (motive:=fun _=>Nat) 0 (fun _ _ n=>Nat.succ n) l
def N8(d:Nat)(l:List (HS×AV)):List (HS×AV):=List.rec (motive:=fun _=>List (HS×AV)) [] (fun q t _=>List.rec (motive:=fun _=>List (HS×AV)) l (fun _ _ _=>Zz l q (SI q.1.nx d)) t) l
def Jt(cs:List AF)(l:List (HS×AV)):List (HS×AV):=List.rec (motive:=fun _=>List (HS×AV)) l (fun _ t _=>N8 (G5 t) l) cs
def rA(ops:Array Oper)(i:Nat):Option Oper:=ops[i]?
def X2(ops:Array Oper):List Nat:=List.range ops.size
def qN(ih:sJ)(c:Cx)(h:HS)(K:Tr AV)(td:List AI)(d:Option Nat):AV->cW:=Option.rec (motive:=fun _=>AV->cW) (fun _=>ih c h K td .run)
 (fun d v=>Bool.rec (motive:=fun _=>cW) none (ih c h (EX (A1 d) (some v) K) td .run) (Nat.ble (Nat.succ d) c.n)) d
def C7(n:Nat)(f:Nat->cW):cW:=Nat.rec (motive:=fun _=>cW) (f 0) (fun m _=>f (Nat.succ m)) n
def Sz{α:Type}(l:List α)(f:List α->cW):cW:=List.rec (motive:=fun _=>cW) (f []) (fun a l _=>f (a::l)) l
def YP(o:Option Nat)(f:Option Nat->cW):cW:=Option.rec (motive:=fun _=>cW) (f none) (fun n=>f (some n)) o
def YQ(t:Tr AV)(f:Tr AV->cW):cW:=Tr.rec (motive:=fun _=>cW) (f .nil) (fun v a b c d _ _ _ _=>f (.nd v a b c d)) t
def YO(k:CallKind)(f:CallKind->cW):cW:=CallKind.rec (motive:=fun _=>cW) (f .normal) (f .deferred) (f .wrapped) (f .report) (f .early) k
def SA(t:Tr AO)(f:Tr AO->cW):cW:=Tr.rec (motive:=fun _=>cW) (f .nil) (fun v a b c d _ _ _ _=>f (.nd v a b c d)) t
def YN(h:HS)(f:HS->cW):cW:=HS.rec (motive:=fun _=>cW) (fun H nx=>C7 nx fun nx=>SA H fun H=>f ⟨H,nx⟩) h
def aam(ih:sJ)(e:Nat)(cs:List AF)(h:HS)(A:AF):cW:=AF.rec (motive:=fun _=>cW) (fun fn n K td ds md kind rd=>
 C7 fn fun fn=>C7 n fun n=>Sz ds fun ds=>YO kind fun kind=>YP rd fun rd=>YQ K fun K=>ih ⟨e,cs,fn,n,ds,kind,rd⟩ h K td md) A
def sP(ih:sJ)(e:Nat)(s:qW):cW:=qW.rec (motive:=fun _=>cW) (fun h A cs=>Sz cs fun cs=>YN h fun h=>aam ih e cs h A) s
def I8(ops:Array Oper)(j:Nat):Option Nat:=(rA ops j).bind (·.dst)
def EL(ops:Array Oper)(c:Nat)(l:List (Nat×Fl)):List (Nat×Fl):=List.rec (motive:=fun _=>List (Nat×Fl)) [] (fun q _ r=>Bool.rec (motive:=fun _=>List (Nat×Fl)) (q::r) r (D.pO ops q.1 c)) l
def acb(x:AI):sJ->Nat->List AF->FuncId->Nat->List AD->CallKind->Option Nat->HS->Tr AV->List AI->AV->cW->cW:=
 AI.rec (motive:=fun _=>sJ->Nat->List AF->FuncId->Nat->List AD->CallKind->Option Nat->HS->Tr AV->List AI->AV->cW->cW)
 (fun _ _ _ _ _ _ _ _ _ _ _ _ _ z=>z)
 (fun _ _ _ _ _ _ _ _ _ _ _ _ _ z=>z)
 (fun _ _ _ _ _ _ _ _ _ _ _ _ _ z=>z)
 (fun _ _ _ _ _ _ _ _ _ _ _ _ _ z=>z)
 (fun ops l ih e cs fn n ds kind rd h K k v z=>List.rec (motive:=fun _=>cW) z (fun i l _=>qN ih ⟨e,cs,fn,n,ds,kind,rd⟩ h K (.ops ops l::k) (I8 ops i) v) l)
 (fun ops K0 td pe ih e cs fn n ds kind rd h K k v z=>List.rec (motive:=fun _=>cW) z (fun i l _=>qN ih ⟨e,cs,fn,n,ds,kind,rd⟩ h K (.qA ops K0 l (EL ops i pe)::k) (I8 ops i) v) td)
 (fun o ih e cs fn n ds kind rd h K k _ _=>ih ⟨e,cs,fn,n,ds,kind,rd⟩ h K (.er o::k) .run)
 (fun _ _ _ _ _ _ _ _ _ _ _ _ _ z=>z)
 (fun _ _ _ _ _ _ _ _ _ _ _ _ z=>z) x
def CY(A:AF)(ih:sJ)(e:Nat)(cs:List AF)(h:HS)(v:AV)(z:cW):cW:=
 AF.rec (motive:=fun _=>cW) (fun fn n K td ds md kind rd=>AM.rec (motive:=fun _=>cW) (List.rec (motive:=fun _=>cW) z (fun x k _=>acb x ih e cs fn n ds kind rd h K k v z) td) z (fun _=>z) md) A
abbrev Prs:=Option (List (HS×AV))
def W0(l:List Rt):Prs:=List.rec (motive:=fun _=>Prs) (some []) (fun x _ r=>Rt.rec (motive:=fun _=>Prs) (fun h v=>mR r fun l=>some ((h,v)::l)) (fun _ _ _ _ _=>none) x) l
def PE{α:Type}(g:α->cW)(l:List α):Prs:=List.rec (motive:=fun _=>Prs) (some []) (fun s _ r=>yN (fun a b=>some (a++b)) (mR (g s) W0) r) l
def aal(l:List (HS×AV)):List Rt:=List.rec (motive:=fun _=>List Rt) [] (fun q _ r=>.ret q.1 q.2::r) l
def one?(l:List (HS×AV)):Option (HS×AV):=match l with
 |[s]=>some s
 |_=>none
def NH(ih:sJ)(e:Nat):List AF->List (HS×AV)->cW:=Nat.rec (motive:=fun _=>List AF->List (HS×AV)->cW) (fun _ l=>some (aal l))
 (fun e go cs l=>List.rec (motive:=fun _=>cW) none (fun A cs _=>Option.rec (motive:=fun _=>cW)
  (mR (PE (fun q=>CY A ih 0 cs q.1 q.2 none) l) fun l=>go cs (Jt cs l)) (fun q=>CY A ih e cs q.1 q.2 none) (one? l)) cs) e
def Zp(k:CallKind):Bool:=match k with
 |.normal=>true
 |_=>false
def ack(ih:sJ)(c:Cx)(s:qW):cW:=Nat.rec (motive:=fun _=>cW) (Bool.rec (motive:=fun _=>cW) none (sP ih 0 s) (Zp c.kind)) (fun e _=>sP ih (Nat.succ e) s) c.e
def acq(ih:sJ)(e:Nat)(s:qW):cW:=Nat.rec (motive:=fun _=>cW) none (fun e _=>sP ih e s) e
def dJ(P:Program)(ih:sJ)(c:Cx)(h:HS)(K:Tr AV)(td:List AI)(md:AM):cW:=match gG P (Cx.rec (motive:=fun _=>qW) (fun _ cs fn n ds kind rd=>⟨h,⟨fn,n,K,td,ds,md,kind,rd⟩,cs⟩) c)with
 |.one s=>ack ih c s
 |.push s=>sP ih (Nat.succ c.e) s
 |.pop s=>acq ih c.e s
 |.many l=>Bool.rec (motive:=fun _=>cW) (mR (PE (sP ih 0) l) fun l=>NH ih c.e c.cs (Jt c.cs l)) (some [.stop c h K td md]) (SJ h.nx (G5 c.cs))
 |.fin=>none
 |.bad _=>none
def Nt(P:Program)(g:FuncId):Option (Code×Nat):=(P.funcs[g]?).bind fun fn=>fn.body.map fun c=>(c,fn.ntmps)
def Vw(l:List AV):Nat->Tr AV->Tr AV:=List.rec (motive:=fun _=>Nat->Tr AV->Tr AV) (fun _ K=>K) (fun v _ ih i K=>ih (Nat.succ i) (EX (A1 i) (some v) K)) l
def Wu(l:List AV):Nat:=List.rec (motive:=fun _=>Nat) 0 (fun _ _ n=>Nat.succ n) l
def Nx(P:Program)(ih:sJ)(c:Cx)(h:HS)(K:Tr AV)(td:List AI)(g:FuncId)(args:List AV):cW:=mR (Nt P g) fun q=>Prod.rec (motive:=fun _=>cW) (fun cd m=>C7 m fun m=>
 Bool.rec (motive:=fun _=>cW) none (Cx.rec (motive:=fun _=>cW) (fun e cs fn n ds kind rd=>ih ⟨Nat.succ e,⟨fn,n,K,td,ds,.run,kind,rd⟩::cs,g,m,[],.normal,none⟩ h (Vw args 0 .nil) [.code cd] .run) c) (Nat.ble (Wu args) m)) q
def ab1(r:RV):Program->sJ->Cx->HS->Tr AV->Array Oper->Nat->List Nat->List AI->Option Nat->cW:=
 RV.rec (motive:=fun _=>Program->sJ->Cx->HS->Tr AV->Array Oper->Nat->List Nat->List AI->Option Nat->cW)
 (fun v _ ih c h K ops _ l k d=>qN ih c h K (.ops ops l::k) d v)
 (fun h' _ ih c _ K ops _ l k d=>qN ih c h' K (.ops ops l::k) d gH)
 (fun g a P ih c h K ops i l k _=>Nx P ih c h K (.ops ops (i::l)::k) g a)
 (fun v _ _ _ ih c h K ops _ l k d=>qN ih c h K (.ops ops l::k) d v)
 (fun P ih c h K ops i l k _=>dJ P ih c h K (.ops ops (i::l)::k) .run) r
def opS(P:Program)(ih:sJ)(c:Cx)(h:HS)(K:Tr AV)(ops:Array Oper)(i:Nat)(l:List Nat)(k:List AI)(o:Oper):cW:=
 ab1 (WU o.op P h K) P ih c h K ops i l k o.dst
def abM(u:Value):(Bool->cW)->cW->cW:=Value.rec (motive_1:=fun _=>(Bool->cW)->cW->cW) (motive_2:=fun _=>PUnit) (motive_3:=fun _=>PUnit) (fun b q _=>q b) (fun _ _ _ z=>z) (fun _ _ _ z=>z) (fun _ _ _ _ z=>z) (fun _ _ z=>z) (fun _ _ z=>z) (fun _ _ _ _ z=>z) (fun _ _ z=>z) (fun _ _ z=>z) (fun _ _ _ _ _ _ z=>z) (fun _ z=>z) (fun _ _ _ _ z=>z) (fun _ z=>z) (fun _ _ _ z=>z) (fun _ _ _ z=>z) (fun _ _=>⟨⟩) ⟨⟩ (fun _ _ _ _=>⟨⟩) u
def toA(x:AV):(Bool->cW)->cW->cW:=AV.rec (motive_1:=fun _=>(Bool->cW)->cW->cW) (motive_2:=fun _=>PUnit) (fun u q z=>abM u q z) (fun _ _ _ z=>z) (fun _ _ _ _ z _ z=>z) (fun _ _ z=>z) (fun _ _ _ _ _ _ z=>z) (fun _ _ z=>z) (fun _ _ _ _ z=>z) (fun _ _ _ z=>z) (fun _ _ _ z=>z) ⟨⟩ (fun _ _ _ _=>⟨⟩) x
def YX(g:Option (Nat×Bool)):Program->sJ->Cx->HS->Tr AV->Array Oper->Nat->List Nat->List AI->Oper->cW:=
 Option.rec (motive:=fun _=>Program->sJ->Cx->HS->Tr AV->Array Oper->Nat->List Nat->List AI->Oper->cW) opS
 (fun g P ih c h K ops i l k o=>Option.rec (motive:=fun _=>cW) none
  (fun v=>toA v (fun b=>Bool.rec (motive:=fun _=>cW) (qN ih c h K (.ops ops l::k) o.dst gH) (opS P ih c h K ops i l k o) (Z7 b g.2)) (dJ P ih c h K (.ops ops (i::l)::k) .run))
  (mR (I8 ops g.1) fun d=>rB (A1 d) K)) g
def abr(P:Program)(ih:sJ)(c:Cx)(h:HS)(K:Tr AV)(ops:Array Oper)(k:List AI)(l:List Nat):cW:=List.rec (motive:=fun _=>cW) (ih c h K k .run)
 (fun i l _=>Option.rec (motive:=fun _=>cW) none (fun o=>YX o.guard P ih c h K ops i l k o) (rA ops i)) l
def XN(o:Oper):Bool:=match o.guard with
 |none=>true
 |some _=>false
def RA(ops:Array Oper)(td:List Nat)(i:Nat):Bool:=td.any fun c=>D.pO ops c i
def LY(ops:Array Oper)(i:Nat)(o:Oper):Bool:=(o.looksAt ops).all fun t=>match D.writer ops t with
 |none=>true
 |some j=>D.pO ops j i
def ZC(ops:Array Oper)(td:List Nat):Bool:=match td with
 |[]=>true
 |c::t=>t.all fun c'=>D.pO ops c c'
def Yn(P:Program)(ops:Array Oper)(n:Nat):Bool:=P.follows .mixedOrders&&K9 ops n
def Yr(K:Tr AV)(n:Nat)(v:AV)(d:Option Nat):Bool:=Option.rec (motive:=fun _=>Bool) true (fun d=>Bool.rec (motive:=fun _=>Bool) false (Option.rec (motive:=fun _=>Bool) false (fun u=>Jc u v) (rB (A1 d) K)) (Nat.ble (Nat.succ d) n)) d
abbrev IH:=Option (Tr AV×List (Nat×Fl))
def Kq(ih:Tr AV->IH)(q:Nat×Fl)(K:Tr AV):IH:=mR (ih K) fun r=>some (r.1,q::r.2)
def abE(n:Nat)(ih:Tr AV->IH)(i:Nat)(K:Tr AV)(v:AV)(d:Option Nat):IH:=Option.rec (motive:=fun _=>IH) (Kq ih (i,.val) K)
 (fun d=>Bool.rec (motive:=fun _=>IH) none (Kq ih (i,.val) (EX (A1 d) (some v) K)) (Nat.ble (Nat.succ d) n)) d
def ZO(P:Program)(ops:Array Oper)(n:Nat)(h:HS)(ih:Tr AV->IH)(i:Nat)(K:Tr AV)(o:Oper):IH:=
 Bool.rec (motive:=fun _=>IH) none (Bool.rec (motive:=fun _=>IH) none (RV.rec (motive:=fun _=>IH) (fun v=>abE n ih i K v o.dst) (fun _=>none) (fun _ _=>none) (fun _ _ _=>none) none (WU o.op P h K)) (XN o)) (LY ops i o)
def HF(P:Program)(ops:Array Oper)(td:List Nat)(n:Nat)(h:HS)(l:List (Nat×Fl)):Tr AV->IH:=List.rec (motive:=fun _=>Tr AV->IH) (fun K=>some (K,[]))
 (fun q _ ih K=>Fl.rec (motive:=fun _=>IH) (Bool.rec (motive:=fun _=>IH) (mR (rA ops q.1) (ZO P ops n h ih q.1 K)) (Kq ih q K) (RA ops td q.1)) (Kq ih q K) (fun _=>Kq ih q K) q.2) l
def Ym(P:Program)(ops:Array Oper)(n:Nat)(h:HS)(K:Tr AV)(i:Nat)(o:Oper):Bool:=
 kr (LY ops i o) (kr (XN o) (RV.rec (motive:=fun _=>Bool) (fun v=>Yr K n v o.dst) (fun _=>false) (fun _ _=>false) (fun _ _ _=>false) false (WU o.op P h K)))
def RO(P:Program)(ops:Array Oper)(td:List Nat)(n:Nat)(h:HS)(K:Tr AV)(l:List (Nat×Fl)):Bool:=List.rec (motive:=fun _=>Bool) true
 (fun q _ r=>kr (Fl.rec (motive:=fun _=>Bool) (RA ops td q.1) (Option.rec (motive:=fun _=>Bool) false (Ym P ops n h K q.1) (rA ops q.1)) (fun _=>false) q.2) r) l
def Sc(P:Program)(ih:sJ)(c:Cx)(h:HS)(K:Tr AV)(ops:Array Oper)(K0:Tr AV)(i:Nat)(t:List Nat)(pe:List (Nat×Fl))(k:List AI)(z:cW)(o:Oper):cW:=
 Bool.rec (motive:=fun _=>cW) z (Bool.rec (motive:=fun _=>cW) z (RV.rec (motive:=fun _=>cW)
  (fun v=>qN ih c h K (.qA ops K0 t (EL ops i pe)::k) o.dst v) (fun h=>qN ih c h K (.qA ops K0 t (EL ops i pe)::k) o.dst gH)
  (fun g a=>Nx P ih c h K (.qA ops K0 (i::t) pe::k) g a)
  (fun v _ _=>qN ih c h K (.qA ops K0 t (EL ops i pe)::k) o.dst v) z (WU o.op P h K)) (XN o)) (LY ops i o)
def ab6(P:Program)(ih:sJ)(c:Cx)(h:HS)(ops:Array Oper)(K0:Tr AV)(td:List Nat)(k:List AI)(z:cW)(r:Tr AV×List (Nat×Fl)):cW:=Prod.rec (motive:=fun _=>cW) (fun K pe=>
 Bool.rec (motive:=fun _=>cW) z (Bool.rec (motive:=fun _=>cW) z (List.rec (motive:=fun _=>cW) (ih c h K k .run) (fun i t _=>Option.rec (motive:=fun _=>cW) z (Sc P ih c h K ops K0 i t pe k z) (rA ops i)) td) (ZC ops td)) (RO P ops td c.n h K pe)) r
def Sa(P:Program)(ih:sJ)(c:Cx)(h:HS)(K:Tr AV)(ops:Array Oper)(K0:Tr AV)(td:List Nat)(pe:List (Nat×Fl))(k:List AI)(z:cW):cW:=
 Option.rec (motive:=fun _=>cW) z (ab6 P ih c h ops K0 td k z) (HF P ops td c.n h pe K)
def RY(P:Program)(ih:sJ)(c:Cx)(h:HS)(K:Tr AV)(k:List AI)(a b:Code)(z:cW)(x:Operand):cW:=Option.rec (motive:=fun _=>cW) z
 (fun v=>toA v (fun t=>Bool.rec (motive:=fun _=>cW) (ih c h K (.code b::k) .run) (ih c h K (.code a::k) .run) t) z) (uA x K)
def exR(id:Nat)(l:List AI):Option (List AI):=List.rec (motive:=fun _=>Option (List AI)) none
 (fun x k ih=>AI.rec (motive:=fun _=>Nat->List AI->Option (List AI)->Option (List AI))
 (fun _ _ _ ih=>ih)
 (fun id n k ih=>Bool.rec (motive:=fun _=>Option (List AI)) ih (some k) (Nat.beq id n))
 (fun _ _ _ ih=>ih)
 (fun _ _ _ ih=>ih)
 (fun _ _ _ _ ih=>ih)
 (fun _ _ _ _ _ _ ih=>ih)
 (fun _ _ _ ih=>ih)
 (fun _ _ _ ih=>ih)
 (fun _ _ ih=>ih) x id k ih) l
def abt(P:Program)(h:HS)(K:Tr AV)(r:ResultVar):Option AV:=ResultVar.rec (motive:=fun _=>Option AV) (fun t=>rB (A1 t) K) (fun a t=>mR (rB (A1 a) K) (ldV (fD P t) h)) r
def TK(P:Program)(h:HS)(K:Tr AV)(l:List ResultVar):Option (List AV):=List.rec (motive:=fun _=>Option (List AV)) (some []) (fun r _ ih=>yN (fun v l=>some (v::l)) (abt P h K r) ih) l
def WZ(P:Program)(f:FuncId):Option (List ResultVar):=(P.funcs[f]?).map fun fn=>fn.results.toList
def DV(l:List AV):AV:=List.rec (motive:=fun _=>AV) (.dD []) (fun x l _=>List.rec (motive:=fun _=>AV) x (fun y l _=>.dD (x::y::l)) l) l
def Yt(cs:List AF)(h:HS)(v:AV)(z:cW):cW:=List.rec (motive:=fun _=>cW) (some [.ret h v]) (fun A cs _=>CY A (fun _ _ _ _ _=>some [.ret h v]) 0 cs h v z) cs
def abu(P:Program)(ih:sJ)(c:Cx)(h:HS)(K:Tr AV)(z:cW):cW:=C7 c.fn fun f=>Option.rec (motive:=fun _=>cW) z
 (fun l=>Nat.rec (motive:=fun _=>cW) (Yt c.cs h (DV l) z) (fun e _=>List.rec (motive:=fun _=>cW) z (fun A cs _=>CY A ih e cs h (DV l) z) c.cs) c.e) (mR (WZ P f) (TK P h K))
def TL(P:Program)(ih:sJ)(c:Cx)(h:HS)(K:Tr AV)(z:cW):cW:=Option.rec (motive:=fun _=>cW)
 (List.rec (motive:=fun _=>cW) (Bool.rec (motive:=fun _=>cW) z (abu P ih c h K z) (Zp c.kind)) (fun _ _ _=>z) c.ds) (fun _=>z) c.rd
def XH(x:Code):Program->sJ->Cx->HS->Tr AV->List AI->cW:=Code.rec (motive:=fun _=>Program->sJ->Cx->HS->Tr AV->List AI->cW)
 (fun _ ih c h K k=>ih c h K k .run)
 (fun id ops dr P ih c h K k=>Bool.rec (motive:=fun _=>cW) (ih c h K (.ops ops (X2 ops)::k) .run) (Bool.rec (motive:=fun _=>cW) (dJ P ih c h K (.code (.region id ops dr)::k) .run) (ih c h K (.qA ops K (zd ops) (wk ops)::k) .run) (Yn P ops c.n)) dr)
 (fun a b _ _ _ ih c h K k=>ih c h K (.code a:: .code b::k) .run)
 (fun x a b _ _ P ih c h K k=>RY P ih c h K k a b (dJ P ih c h K (.code (.cond x a b)::k) .run) x)
 (fun id b _ _ ih c h K k=>ih c h K (.code b:: .mQ id::k) .run)
 (fun b _ _ ih c h K k=>ih c h K (.code b:: .lp b::k) .run)
 (fun f ps a b _ _ P ih c h K k=>dJ P ih c h K (.code (.rangeFunc f ps a b)::k) .run)
 (fun id P ih c h K k=>Option.rec (motive:=fun _=>cW) (dJ P ih c h K (.code (.exit id)::k) .run) (fun k=>ih c h K k .run) (exR id k))
 (fun b _ _ ih c h K k=>ih c h K (.code b:: .sc b::k) .run)
 (fun n P ih c h K k=>dJ P ih c h K (.code (.label n)::k) .run)
 (fun n P ih c h K k=>dJ P ih c h K (.code (.goto n)::k) .run)
 (fun P ih c h K k=>TL P ih c h K (dJ P ih c h K (.code .ret::k) .run))
 (fun y P ih c h K k=>dJ P ih c h K (.code (.refuse y)::k) .run) x
def XQ(x:AI):Program->sJ->Cx->HS->Tr AV->List AI->cW:=AI.rec (motive:=fun _=>Program->sJ->Cx->HS->Tr AV->List AI->cW)
 (fun cd P ih c h K k=>XH cd P ih c h K k)
 (fun _ _ ih c h K k=>ih c h K k .run)
 (fun cd _ ih c h K k=>ih c h K (.code cd:: .lp cd::k) .run)
 (fun _ _ ih c h K k=>ih c h K k .run)
 (fun ops l P ih c h K k=>abr P ih c h K ops k l)
 (fun ops K0 td pe P ih c h K k=>Sa P ih c h K ops K0 td pe k (dJ P ih c h K (.qA ops K0 td pe::k) .run))
 (fun o P ih c h K k=>dJ P ih c h K (.rf o::k) .run)
 (fun o P ih c h K k=>dJ P ih c h K (.er o::k) .run)
 (fun P ih c h K k=>dJ P ih c h K (.br::k) .run) x
def acu(x:AI):Program->sJ->Cx->HS->Tr AV->cW->cW:=
 AI.rec (motive:=fun _=>Program->sJ->Cx->HS->Tr AV->cW->cW)
 (fun _ P ih c h K z=>TL P ih c h K z)
 (fun _ _ _ _ _ _ z=>z)
 (fun _ _ _ _ _ _ z=>z)
 (fun _ _ _ _ _ _ z=>z)
 (fun _ _ _ _ _ _ _ z=>z)
 (fun _ _ _ _ _ _ _ _ _ z=>z)
 (fun _ _ _ _ _ _ z=>z)
 (fun _ _ _ _ _ _ z=>z)
 (fun _ _ _ _ _ z=>z) x
def XY(P:Program)(ih:sJ)(c:Cx)(h:HS)(K:Tr AV)(td:List AI)(md:AM):cW:=AM.rec (motive:=fun _=>cW)
 (List.rec (motive:=fun _=>cW) (TL P ih c h K (dJ P ih c h K [] .run)) (fun x k _=>XQ x P ih c h K k) td)
 (List.rec (motive:=fun _=>cW) (TL P ih c h K (dJ P ih c h K td .ret)) (fun x _ _=>acu x P ih c h K (dJ P ih c h K td .ret)) td) (fun l=>dJ P ih c h K td (.KH l)) md
def abw(P:Program)(f:Nat):sJ:=Nat.rec (motive:=fun _=>sJ) (fun c h K td md=>some [.stop c h K td md]) (fun _ ih c h K td md=>XY P ih c h K td md) f
end
end Go.Proofs.YtjfkdglgecgjfaaGreat.R
