/- Part of the proof. -/
import Derived.Test.YtjfkdglgecgjfaaGreatZRB
import Derived.RangeFuncLeaves
namespace Go.Proofs.YtjfkdglgecgjfaaGreat.R
open Go.RowKit
section
variable {P:Program}{w0 w w':World}{cs0 cs:List Frame}{ρ ρ':jE}{h h':HS}{u us:List Nat}{fr:Frame}{s:n7}
theorem yk(H:WR w0 ρ h w){q:Nat}{L:Loc}{st:LoopState}{pe:Option Code}{fn n:Nat}{K:Tr AV}{ps:Array Tmp}{fm body:Code}{d:Nat}(hx:h.H.get q=some (.loop st pe fn n K ps fm body d))(hL:ρ q=some L):
 ∃tmps ld,pL ρ n K tmps/\ρ d=some ld/\w.heap[L.b]?=some (.loop {state:=st,pending:=pe,fn:=fn,tmps:=tmps,params:=ps,assign:=fm,body:=body,defers:=ld.b}):=H.obj _ _ _ hx hL
theorem AH(H:WR w0 ρ h w){q:Nat}{L:Loc}{st st':LoopState}{pe pe':Option Code}{fn n:Nat}{K:Tr AV}{ps:Array Tmp}{fm body:Code}{d:Nat}(hx:h.H.get q=some (.loop st pe fn n K ps fm body d))(hL:ρ q=some L){tmps:Array Value}{ld:Loc}
 (t1:pL ρ n K tmps) (t2:ρ d=some ld) (t3:w.heap[L.b]?=some (.loop {state:=st,pending:=pe,fn:=fn,tmps:=tmps,params:=ps,assign:=fm,body:=body,defers:=ld.b})):
 WR w0 ρ (h.set q (.loop st' pe' fn n K ps fm body d)) {w with heap:=w.heap.setIfInBounds L.b (.loop {state:=st',pending:=pe',fn:=fn,tmps:=tmps,params:=ps,assign:=fm,body:=body,defers:=ld.b})}:=
 H.set hx hL (eD w L.b _) (fun b hb=>eL w L.b _ b hb) ⟨tmps,ld,t1,t2,ku w _ t3⟩
theorem Ph(hf:FR ρ s.fr fr u)(hs:QL s.fr.todo fr.todo)(H:WR w0 ρ s.h w)(hcs:EF ρ s.cs cs us)(hF:fQ ρ s.h.nx (u++us))(hst:step P (lone fr (cs++cs0) w)=.next (lone {fr with mode:=.returning} (cs++cs0) w)):
 gk P w0 cs0 (lone fr (cs++cs0) w) (.one {s with fr:={s.fr with mode:=.ret}}):=
 ⟨_,Steps.one hst,ρ,_,cs,w,u,us,rfl,H,⟨hf.fn,hf.kind,hf.rd,rfl,hf.ds,hf.body,.inr hs⟩,hcs,hF⟩
theorem my(hF:fQ ρ h.nx (u++us)):fQ ρ h.nx us:=⟨(List.nodup_append.1 hF.1).2.1,fun q hq=>hF.2 q (aY _ hq)⟩
theorem FI{jump:Option Code}(H:WR w0 ρ s.h w)(hf:FR ρ s.fr fr u)(hs:QL s.fr.todo fr.todo)(hcs:EF ρ s.cs cs us)(hF:fQ ρ s.h.nx (u++us))(h1:fr.roundOf=none->jump=none\/jump=some .ret->step P (lone fr (cs++cs0) w)=.next (lone {fr with mode:=.returning} (cs++cs0) w))
 (h2:∀l c ccs v w',fr.roundOf=some l->fr.kind=.normal->cs++cs0=c::ccs->(Instr.endRound l jump).run P w=.ok v w'->step P (lone fr (cs++cs0) w)=.next (lone (c.finish v) ccs w')):gk P w0 cs0 (lone fr (cs++cs0) w) (kq s jump):=by
 unfold kq
 split
 . rename_i hrd
   have hro:fr.roundOf=none:=by have:=hf.rd;rw[hrd]at this;exact this
   split
   . exact Ph hf hs H hcs hF (h1 hro (.inl rfl))
   . exact Ph hf hs H hcs hF (h1 hro (.inr rfl))
   . trivial
 . rename_i q hrd
   refine cu fun y hy=>?_
   simp only[aa]at hy
   obtain⟨x,e1,hy⟩:=hy
   split at hy
   . rename_i st pe fn n K ps fm body d c ccs hkind hcc
     simp only[ab]at hy
     obtain⟨A',e2,rfl⟩:=hy
     have hro:=hf.rd
     rw[hrd]at hro
     obtain⟨L,hL,hro⟩:=hro
     obtain⟨tmps,ld,t1,t2,t3⟩:=yk H e1 hL
     rw[hcc]at hcs
     obtain⟨cf,cfs,u1,us1,rfl,rfl,c1,c2,c3⟩:=hcs.cons_inv
     have hrun:(Instr.endRound L.b jump).run P w=.ok (.bool jump.isNone) {w with heap:=w.heap.setIfInBounds L.b (.loop {state:=if jump.isNone then .ready else .done,pending:=jump,fn:=fn,tmps:=tmps,params:=ps,assign:=fm,body:=body,defers:=ld.b})}:=by
      have hget:(getObj L.b).run P w=.ok _ w:=hG t3 (fun _ _ _ h=>by cases h);have hset:∀ob,(setObj L.b ob).run P w=.ok () {w with heap:=w.heap.setIfInBounds L.b ob}:=fun ob=>lr t3 (fun _ _ _ h=>by cases h)
      simp only[Instr.endRound,Instr.getLoop,Sem.run_bind,hget,Result.andThen_ok,hset,Sem.run_pure]
     have hst:=h2 L.b cf (cfs++cs0) _ _ hro (by rw[hf.kind,hkind]) rfl hrun
     have hN:gH s.h (s.h.set q (.loop (if jump.isNone then .ready else .done) jump fn n K ps fm body d)) ρ ρ:=gH.refl
     exact⟨_,Steps.one hst,ρ,_,cfs,_,u1,us1,rfl,AH H e1 hL t1 t2 t3,(ey (v:=.p (.bool jump.isNone)) c1 c2 rfl e2).1,c3,(my hF).ext hN⟩
   . cases hy
theorem jr{id:Nat}:∀{k k2:List AI} {k':List Item},dC ρ k=some k'->um id k=some k2->∃k2',exitTo id k'=some k2'/\dC ρ k2=some k2'
 |[],_,_,_,e=>by cases e
 |x::k,k2,k',hk,e=>by
  obtain⟨y,l',rfl,h1,h2⟩:=cD hk
  cases x with
  |kj id'=>
   simp only[cW,af]at h1;subst h1
   simp only[um]at e
   simp only[exitTo]
   have hb:(id' == id)=Nat.beq id' id:=by rw[Bool.eq_iff_iff];simp
   rw[hb]
   split at e
   . rename_i hq;cases e;exact⟨l',by rw[hq];rfl,h2⟩
   . rename_i hq;rw[hq];exact jr h2 e
  |code c=>simp only[cW,af]at h1;subst h1;exact jr (k:=k) (k':=l') h2 e
  |lp c=>simp only[cW,af]at h1;subst h1;exact jr (k:=k) (k':=l') h2 e
  |sc c=>simp only[cW,af]at h1;subst h1;exact jr (k:=k) (k':=l') h2 e
  |ops o l=>simp only[cW,af]at h1;subst h1;exact jr (k:=k) (k':=l') h2 e
  |nF a b c d=>cases h1
  |rf o=>simp only[cW,ab]at h1;obtain⟨L,_,rfl⟩:=h1;exact jr (k:=k) (k':=l') h2 e
  |er o=>simp only[cW,ab]at h1;obtain⟨L,_,rfl⟩:=h1;exact jr (k:=k) (k':=l') h2 e
  |br=>simp only[cW,af]at h1;subst h1;exact jr (k:=k) (k':=l') h2 e
theorem fH{id:Nat}:∀{k:List AI} {k':List Item},dC ρ k=some k'->um id k=none->exitTo id k'=none
 |[],_,hk,_=>by simp only[dC,af]at hk;subst hk;rfl
 |x::k,k',hk,e=>by
  obtain⟨y,l',rfl,h1,h2⟩:=cD hk
  cases x with
  |kj id'=>
   simp only[cW,af]at h1;subst h1
   simp only[um]at e
   simp only[exitTo]
   have hb:(id' == id)=Nat.beq id' id:=by rw[Bool.eq_iff_iff];simp
   rw[hb]
   split at e
   . cases e
   . rename_i hq;rw[hq];exact fH h2 e
  |code c=>simp only[cW,af]at h1;subst h1;exact fH (k:=k) (k':=l') h2 e
  |lp c=>simp only[cW,af]at h1;subst h1;exact fH (k:=k) (k':=l') h2 e
  |sc c=>simp only[cW,af]at h1;subst h1;exact fH (k:=k) (k':=l') h2 e
  |ops o l=>simp only[cW,af]at h1;subst h1;exact fH (k:=k) (k':=l') h2 e
  |nF a b c d=>cases h1
  |rf o=>simp only[cW,ab]at h1;obtain⟨L,_,rfl⟩:=h1;exact fH (k:=k) (k':=l') h2 e
  |er o=>simp only[cW,ab]at h1;obtain⟨L,_,rfl⟩:=h1;exact fH (k:=k) (k':=l') h2 e
  |br=>simp only[cW,af]at h1;subst h1;exact fH (k:=k) (k':=l') h2 e
theorem js{t:Nat}:∀{k k2:List AI} {k':List Item},dC ρ k=some k'->zF t k=some k2->∃k2',gotoIn t k'=some k2'/\dC ρ k2=some k2'
 |[],_,_,_,e=>by cases e
 |x::k,k2,k',hk,e=>by
  obtain⟨y,l',rfl,h1,h2⟩:=cD hk
  cases x with
  |sc body=>
   simp only[cW,af]at h1;subst h1
   simp only[zF]at e
   simp only[gotoIn]
   split at e
   . rename_i r hr;cases e
     exact⟨_,by rw[hr],cG rfl (cG rfl h2)⟩
   . rename_i hr;rw[hr];exact js h2 e
  |code c=>simp only[cW,af]at h1;subst h1;exact js (k:=k) (k':=l') h2 e
  |lp c=>simp only[cW,af]at h1;subst h1;exact js (k:=k) (k':=l') h2 e
  |kj c=>simp only[cW,af]at h1;subst h1;exact js (k:=k) (k':=l') h2 e
  |ops o l=>simp only[cW,af]at h1;subst h1;exact js (k:=k) (k':=l') h2 e
  |nF a b c d=>cases h1
  |rf o=>simp only[cW,ab]at h1;obtain⟨L,_,rfl⟩:=h1;exact js (k:=k) (k':=l') h2 e
  |er o=>simp only[cW,ab]at h1;obtain⟨L,_,rfl⟩:=h1;exact js (k:=k) (k':=l') h2 e
  |br=>simp only[cW,af]at h1;subst h1;exact js (k:=k) (k':=l') h2 e
theorem fL{t:Nat}:∀{k:List AI} {k':List Item},dC ρ k=some k'->zF t k=none->gotoIn t k'=none
 |[],_,hk,_=>by simp only[dC,af]at hk;subst hk;rfl
 |x::k,k',hk,e=>by
  obtain⟨y,l',rfl,h1,h2⟩:=cD hk
  cases x with
  |sc body=>
   simp only[cW,af]at h1;subst h1
   simp only[zF]at e
   simp only[gotoIn]
   split at e
   . cases e
   . rename_i hr;rw[hr];exact fL h2 e
  |code c=>simp only[cW,af]at h1;subst h1;exact fL (k:=k) (k':=l') h2 e
  |lp c=>simp only[cW,af]at h1;subst h1;exact fL (k:=k) (k':=l') h2 e
  |kj c=>simp only[cW,af]at h1;subst h1;exact fL (k:=k) (k':=l') h2 e
  |ops o l=>simp only[cW,af]at h1;subst h1;exact fL (k:=k) (k':=l') h2 e
  |nF a b c d=>cases h1
  |rf o=>simp only[cW,ab]at h1;obtain⟨L,_,rfl⟩:=h1;exact fL (k:=k) (k':=l') h2 e
  |er o=>simp only[cW,ab]at h1;obtain⟨L,_,rfl⟩:=h1;exact fL (k:=k) (k':=l') h2 e
  |br=>simp only[cW,af]at h1;subst h1;exact fL (k:=k) (k':=l') h2 e
theorem Dc{n:Nat}{K:Tr AV}{x:Operand}{v:AV}{ds:List Deferred}(ht:pL ρ n K fr.tmps)(e:dE K x=some v):conv ρ v=some ((⟨fr.tmps,ds⟩:Act).eval x):=by
 cases x with
 |tmp t=>
  obtain⟨u,k1,k2⟩:=ht.at_ t v e
  rw[GD k2];exact k1
 |const c=>simp only[dE,af]at e;subst e;exact fT c
 |global g=>simp only[dE,af]at e;subst e;rfl
 |func f=>simp only[dE,af]at e;subst e;rfl
theorem Re{c:Code}{k:List AI}{k':List Item}(H:WR w0 ρ s.h w)(hf:FR ρ s.fr fr u)(hs:QL s.fr.todo fr.todo)(hcs:EF ρ s.cs cs us)(hF:fQ ρ s.h.nx (u++us))(hm:fr.mode=.run)(hk:dC ρ k=some k')(ht:pL ρ s.fr.n s.fr.K fr.tmps)(htd:fr.todo=.code c::k'):
 gk P w0 cs0 (lone fr (cs++cs0) w) (j0 P s c k):=by
 have hmr:=zV hf hm
 have hself:fr.atR ⟨fr.tmps,fr.defers⟩ (.code c::k')=fr:=by rw[<- htd];exact n9 hm
 have go:∀{l:List AI} {l':List Item} {w':World},dC ρ l=some l'->WR w0 ρ s.h w'->step P (lone (fr.atR ⟨fr.tmps,fr.defers⟩ (.code c::k')) (cs++cs0) w)=.next (lone (fr.atR ⟨fr.tmps,fr.defers⟩ l') (cs++cs0) w')->gk P w0 cs0 (lone fr (cs++cs0) w) (.one {s with fr:={s.fr with todo:=l}}):=fun{l l' w'} hl Hw hst=>by
  rw[hself]at hst;exact⟨_,Steps.one hst,ρ,_,cs,w',u,us,rfl,Hw,⟨hf.fn,hf.kind,hf.rd,by have:=hf.mode;rw[hm]at this;exact this,hf.ds,(cp (Ao hl)).2 ⟨hl,ht⟩,.inl hmr⟩,hcs,hF⟩
 have leave:∀{jump:Option Code},(fr.roundOf=none->jump=none\/jump=some .ret->step P (lone (fr.atR ⟨fr.tmps,fr.defers⟩ (.code c::k')) (cs++cs0) w)=.next (lone {fr.atR ⟨fr.tmps,fr.defers⟩ (.code c::k')with mode:=.returning} (cs++cs0) w))->
  (∀l cc ccs v w',fr.roundOf=some l->fr.kind=.normal->(Instr.endRound l jump).run P w=.ok v w'->step P (lone (fr.atR ⟨fr.tmps,fr.defers⟩ (.code c::k')) (cc::ccs) w)=.next (lone (cc.finish v) ccs w'))->gk P w0 cs0 (lone fr (cs++cs0) w) (kq s jump):=fun{jump} a1 a2=>by
  refine FI H hf hs hcs hF (fun b1 b2=>?_) (fun l cc ccs v w' b1 b2 b3 b4=>?_)
  . have:=a1 b1 b2;rw[hself]at this;exact this
  . have:=a2 l cc ccs v w' b1 b2 b4;rw[hself]at this;rw[b3];exact this
 cases c with
 |skip=>exact go hk H stepR_skip
 |label l=>exact go hk H stepR_label
 |ret=>exact leave (fun b1 _=>stepR_ret b1) (fun l cc ccs v w' b1 b2 b4=>stepR_round_ret b1 b2 b4)
 |seq a b=>exact go (cG rfl (cG rfl hk)) H stepR_seq
 |cond c a b=>
  simp only[j0]
  split
  . rename_i e
    have:=dg (Dc (ds:=fr.defers) ht e)
    exact go (cG rfl hk) H (stepR_cond this)
  . rename_i e
    have:=dg (Dc (ds:=fr.defers) ht e)
    exact go (cG rfl hk) H (stepR_cond this)
  . trivial
 |block id b=>exact go (cG rfl (cG rfl hk)) H stepR_block
 |loop b=>exact go (cG rfl (cG rfl hk)) H stepR_loop
 |scope b=>
  refine go (cG rfl (cG rfl hk)) H (step_lone_go ?_)
  simp[stepG,stepG.exec,Frame.atR]
 |exit id=>
  simp only[j0]
  split
  . rename_i k2 e
    obtain⟨k2',g1,g2⟩:=jr hk e
    exact go g2 H (stepR_exit g1)
  . rename_i e
    have g1:=fH hk e
    exact leave (fun _ b2=>by rcases b2 with b2|b2<;>cases b2) (fun l cc ccs v w' b1 b2 b4=>stepR_round_exit b1 b2 g1 b4)
 |goto t=>
  simp only[j0]
  split
  . rename_i k2 e
    obtain⟨k2',g1,g2⟩:=js hk e
    exact go g2 H (stepR_goto g1)
  . rename_i e
    have g1:=fL hk e
    exact leave (fun _ b2=>by rcases b2 with b2|b2<;>cases b2) (fun l cc ccs v w' b1 b2 b4=>stepR_round_goto b1 b2 g1 b4)
 |region id ops dr=>
  cases dr with
  |false=>exact go (cG rfl hk) H stepR_region
  |true=>
   simp only[j0]
   split
   . rename_i hb
     simp only[al]at hb
     have hst:=stepR_region_draw (P:=P) (b:=fr) (a:=⟨fr.tmps,fr.defers⟩) (k:=k') (cs:=cs++cs0) (w:=w) (ops:=ops) (id:=id)
     rw[hself]at hst
     simp only[Region.schedule,hb.1,Bool.true_or,if_true]at hst
     obtain⟨htidy,_⟩:=lA hb.2
     have hlin:=Vg (ops:=ops) ops.size (w.tape w.drawn (.order fr.fn id)) (Array.replicate ops.size false) (by simp) (by
      unfold D.left;exact Nat.le_trans List.countP_le_length (by simp))
     have hnl:=D.nc ops.size
     refine⟨_,Steps.one hst,ρ,_,cs,w.drew,u,us,rfl,H.drew,⟨hf.fn,hf.kind,hf.rd,by have:=hf.mode;rw[hm]at this;exact this,hf.ds,⟨_,k',Array.replicate ops.size false,rfl,hk,?_⟩,.inl hmr⟩,hcs,hF⟩
     exact{
      l9:=hb.2
      VM:=(List.nodup_range).sublist List.filter_sublist
      size:=by simp
      QN:=hlin
      closed:=sN.start ops
      chain:=fun i o ho he=>by
       simp only[hnl i,not_false_eq_true,true_iff,vy,bm,List.mem_range,ho,he,and_true];exact(Array.getElem?_eq_some_iff.1 ho).1
      todo:=fun i hi=>by
       simp only[vy,bm,List.mem_range]at hi;have ho:ops[i]?=some ops[i]:=by simp[hi.1]
       rw[ho]at hi;exact⟨_,ho,hi.2⟩
      quiet:=fun i o ho he _=>⟨.no,by
       simp only[tp,List.mem_filterMap,List.mem_range];exact⟨i,(Array.getElem?_eq_some_iff.1 ho).1,by simp[ho,he]⟩⟩
      news:=fun i q hm _=>by
       simp only[tp,List.mem_filterMap,aa]at hm;obtain⟨j,_,o,_,hm⟩:=hm;split at hm<;>cases hm
      MQ:=fun i _=>hnl i
      keys:=fun i fl hm=>by
       simp only[tp,List.mem_filterMap,aa]at hm;obtain⟨j,_,o,ho,hm⟩:=hm;split at hm
       . cases hm
       . rename_i he;cases hm;exact⟨o,ho,he⟩
      A5:=ht.size
      Q1:=fun t x hx _=>ht.at_ t x hx
      Ud:=fun t x hx _=>ht.at_ t x hx}
   . trivial
 |rangeFunc g ps fm body=>
  simp only[j0]
  refine cu fun y hy=>?_
  simp only[aa]at hy
  obtain⟨⟨h1,d,ads⟩,e1,v,e2,hy⟩:=hy
  have hv:=Dc (ds:=fr.defers) ht e2
  split at hy
  . rename_i gf first caps
    split at hy
    . rename_i hen
      simp only[ab]at hy
      obtain⟨A',e3,rfl⟩:=hy
      have key:∃ρ1 w1 ld mark,gH s.h h1 ρ ρ1/\WR w0 ρ1 h1 w1/\ρ1 d=some ld/\fo ρ1 ads=some mark/\(Instr.enterLoop fr.fn fr.tmps ps fm body fr.roundOf).run P w=.ok (w1.heap.size,mark) (w1.alloc (.loop {state:=.ready,pending:=none,fn:=fr.fn,tmps:=fr.tmps,params:=ps,assign:=fm,body:=body,defers:=ld.b})):=by
       split at e1
       . rename_i hrd;have hro:fr.roundOf=none:=by have:=hf.rd;rw[hrd]at this;exact this
         cases e1;have W:=(H.add (.TB false)).alloc (o:=s.h.nx) (n:=0) (ob:=.deferred (some [])) (w':=w.alloc (.deferred (some []))) (add_get _ _) (H.fresh _ (Nat.le_refl _)).1 (.inl rfl) (by simp only[gw];rw[kV,if_pos rfl]);refine⟨_,_,⟨w.heap.size,0,0⟩,[{target:=.collected w.heap.size,args:= #[]}],gH.put (H.fresh _ (Nat.le_refl _)).1,W,iX,by simp only[fo,qj,iX,ak,ae],?_⟩;simp[Instr.enterLoop,hro]
       . rename_i q hrd;have hro:=hf.rd;rw[hrd]at hro;obtain⟨L,hL,hro⟩:=hro;simp only[aa]at e1;obtain⟨x,g1,e1⟩:=e1;split at e1
         . cases e1;obtain⟨tmps,ld,t1,t2,t3⟩:=yk H g1 hL;have hget:(getObj L.b).run P w=.ok _ w:=hG t3 (fun _ _ _ h=>by cases h);refine⟨ρ,w,ld,[],gH.refl,H,t2,rfl,?_⟩;simp[Instr.enterLoop,hro,Instr.getLoop,hget]
         . cases e1
      obtain⟨ρ1,w1,ld,mark,hN,H1,hld,hmark,hrun⟩:=key
      have hn1:ρ1 h1.nx=none:=(H1.fresh _ (Nat.le_refl _)).1
      have hne:d≠h1.nx:=fun e=>by rw[e,hn1]at hld;cases hld
      have W2:=(H1.add (.loop .ready none s.fr.fn s.fr.n s.fr.K ps fm body d)).alloc (o:=h1.nx) (n:=0) (ob:=.loop {state:=.ready,pending:=none,fn:=fr.fn,tmps:=fr.tmps,params:=ps,assign:=fm,body:=body,defers:=ld.b}) (w':=w1.alloc (.loop {state:=.ready,pending:=none,fn:=fr.fn,tmps:=fr.tmps,params:=ps,assign:=fm,body:=body,defers:=ld.b})) (add_get _ _) hn1 (.inl rfl)
       ⟨fr.tmps,ld,(ht.mono hN.ext).mono (jz hn1),by rw[pA hne];exact hld,by rw[kV,if_pos rfl,hf.fn]⟩
      have hN2:gH h1 (h1.add (.loop .ready none s.fr.fn s.fr.n s.fr.K ps fm body d)) ρ1 (put ρ1 h1.nx ⟨w1.heap.size,0,0⟩):=gH.put hn1
      have hE:=hN.ext.trans hN2.ext
      have hv':=eK hE _ _ hv
      simp only[conv,aa,ab]at hv'
      obtain⟨aS,q1,cs1,q2,q3⟩:=hv'
      have hyl:conv (put ρ1 h1.nx ⟨w1.heap.size,0,0⟩) (.yl h1.nx)=some (.func (.yield w1.heap.size) #[] #[]):=by simp only[conv,iX,ak]
      have hargs:bO (put ρ1 h1.nx ⟨w1.heap.size,0,0⟩) (first++[.yl h1.nx]++caps)=some (aS++[.func (.yield w1.heap.size) #[] #[]]++cs1):=cy (cy q1 (lF hyl rfl)) q2
      have hst:=stepR_rangeFunc (P:=P) (b:=fr) (a:=⟨fr.tmps,fr.defers⟩) (k:=k') (cs:=cs++cs0) (w:=w) (g:=g) (ps:=ps) (assign:=fm) (body:=body) (l:=w1.heap.size) (mark:=mark) (d:={target:=.fn (.func gf) cs1.toArray,args:=aS.toArray++ #[.func (.yield w1.heap.size) #[] #[]]}) (f:=gf) (args:=(aS++[Value.func (.yield w1.heap.size) #[] #[]]++cs1).toArray) hrun
       (by
        have hone:(#[Operand.const (Value.func (.yield w1.heap.size) #[] #[])]).map (⟨fr.tmps,fr.defers⟩:Act).eval= #[Value.func (.yield w1.heap.size) #[] #[]]:=by simp[Act.eval]
        simp only[resolve,Deferred.ofValue,<- q3,Sem.run_pure,hone];exact rfl)
       (by
        have:=oC hen ((aS++[Value.func (.yield w1.heap.size) #[] #[]]++cs1).toArray) (w1.alloc (.loop {state:=.ready,pending:=none,fn:=fr.fn,tmps:=fr.tmps,params:=ps,assign:=fm,body:=body,defers:=ld.b}));simp only[invoke];rw[<- this];congr 2;simp)
      rw[hself]at hst
      refine⟨_,Steps.one hst,put ρ1 h1.nx ⟨w1.heap.size,0,0⟩,_,_::cs,_,[],u++us,rfl,W2,uj e3 hargs,.cons ⟨hf.fn,hf.kind,hf.rd.mono hE,?_,?_,(cp (by trivial)).2 ⟨cG (by simp only[cW,iX,ak]) (gM hE hk),ht.mono hE⟩,.inl hmr⟩ trivial (hcs.mono hE),(hF.ext hN).ext hN2⟩
      . have:=zi hE hf.mode;rw[hm]at this;exact this
      . have happ:∀{x y:List AD} {x' y':List Deferred},fo (put ρ1 h1.nx ⟨w1.heap.size,0,0⟩) x=some x'->fo (put ρ1 h1.nx ⟨w1.heap.size,0,0⟩) y=some y'->fo (put ρ1 h1.nx ⟨w1.heap.size,0,0⟩) (x++y)=some (x'++y'):=by
         intro x
         induction x with
         |nil=>intro y x' y' h1 h2;simp only[fo,af]at h1;subst h1;exact h2
         |cons p x ih=>
          intro y x' y' h1 h2
          simp only[fo,aa,ab]at h1
          obtain⟨q',g1,x2,g2,rfl⟩:=h1
          simp only[aW,fo,g1,ih g2 h2,ae,ak]
        exact happ (mn hN2.ext hmark) (mn hE hf.ds)
    . cases hy
  . cases hy
 |refuse why=>trivial
end
end Go.Proofs.YtjfkdglgecgjfaaGreat.R
namespace Go.Proofs.YtjfkdglgecgjfaaGreat.R
open Go.RowKit
section
variable {P:Program}{w0 w w':World}{cs0 cs:List Frame}{ρ ρ':jE}{h h':HS}{u us:List Nat}{fr:Frame}{s:n7}
theorem R8(hX:fj P w0)(H:WR w0 ρ s.h w)(hf:FR ρ s.fr fr u)(hcs:EF ρ s.cs cs us)(hF:fQ ρ s.h.nx (u++us))(hm:fr.mode=.run):gk P w0 cs0 (lone fr (cs++cs0) w) (mB P s):=by
 have hmr:=zV hf hm;unfold mB;have hb:=hf.body;have go:∀{k:List AI} {k' todo:List Item} {h':HS} {w':World},fr.todo=todo->pL ρ s.fr.n s.fr.K fr.tmps->dC ρ k=some k'->WR w0 ρ h' w'->s.h.nx=h'.nx->step P (lone (fr.atR ⟨fr.tmps,fr.defers⟩ todo) (cs++cs0) w)=.next (lone (fr.atR ⟨fr.tmps,fr.defers⟩ k') (cs++cs0) w')->
  gk P w0 cs0 (lone fr (cs++cs0) w) (.one {s with h:=h',fr:={s.fr with todo:=k}}):=fun{k k' todo h' w'} htd ht hk Hw hnx hst=>by
  rw[<- htd,n9 hm]at hst
  refine⟨_,Steps.one hst,ρ,_,cs,w',u,us,rfl,Hw,⟨hf.fn,hf.kind,hf.rd,by have:=hf.mode;rw[hm]at this;exact this,hf.ds,(cp (Ao hk)).2 ⟨hk,ht⟩,.inl hmr⟩,hcs,?_⟩
  exact hF.ext (h:=s.h) (h':=h') ⟨Ext.refl ρ,fun _ _=>rfl,Nat.le_of_eq hnx⟩
 split
 . rename_i hA;rw[hA,cp (by trivial)]at hb;obtain⟨hb1,hb2⟩:=hb;simp only[dC,af]at hb1;refine FI H hf (by rw[hA];trivial) hcs hF (fun b1 _=>?_) (fun l cc ccs v w' b1 b2 b3 b4=>?_)
   . have:=stepR_end (P:=P) (b:=fr) (a:=⟨fr.tmps,fr.defers⟩) (cs:=cs++cs0) (w:=w) b1;rw[hb1,n9 hm]at this;exact this
   . have:=stepR_round_end (P:=P) (b:=fr) (a:=⟨fr.tmps,fr.defers⟩) (cs:=ccs) (w:=w) (c:=cc) b1 b2 b4;rw[hb1,n9 hm]at this;rw[b3];exact this
 . rename_i c k hA;rw[hA,cp (by trivial)]at hb;obtain⟨hb1,hb2⟩:=hb;obtain⟨y,k',hy,h1,h2⟩:=cD hb1;cases h1;exact Re H hf (by rw[hA];trivial) hcs hF hm h2 hb2 hy
 . rename_i id k hA;rw[hA,cp (by trivial)]at hb;obtain⟨hb1,hb2⟩:=hb;obtain⟨y,k',hy,h1,h2⟩:=cD hb1;cases h1;exact go hy hb2 h2 H rfl stepR_inBlock
 . rename_i c k hA;rw[hA,cp (by trivial)]at hb;obtain⟨hb1,hb2⟩:=hb;obtain⟨y,k',hy,h1,h2⟩:=cD hb1;cases h1;refine go hy hb2 h2 H rfl (step_lone_go ?_);simp[stepG,stepG.exec,Frame.atR]
 . rename_i c k hA;rw[hA,cp (by trivial)]at hb;obtain⟨hb1,hb2⟩:=hb;obtain⟨y,k',hy,h1,h2⟩:=cD hb1;cases h1;exact go hy hb2 (cG rfl (cG rfl h2)) H rfl stepR_inLoop
 . rename_i ops k hA;rw[hA,cp (by trivial)]at hb;obtain⟨hb1,hb2⟩:=hb;obtain⟨y,k',hy,h1,h2⟩:=cD hb1;cases h1;exact go hy hb2 h2 H rfl stepR_region_end
 . rename_i ops i l k hA;rw[hA,cp (by trivial)]at hb;obtain⟨hb1,hb2⟩:=hb;obtain⟨y,k',hy,h1,h2⟩:=cD hb1;cases h1;exact Cr hX H hf (by rw[hA];trivial) hcs hF hm hy (fun o _ x v _ hv=>Dc hb2 hv) (fun o g _ hg=>zG hg fun t x _ hx=>hb2.at_ t x hx)
 . rename_i ops K0 todo pend k hA;exact E8 hX H hf hcs hF hA hm
 . trivial
 . rename_i q k hA;rw[hA,cp (by trivial)]at hb;obtain⟨hb1,hb2⟩:=hb;obtain⟨y,k',hy,h1,h2⟩:=cD hb1;simp only[cW,ab]at h1;obtain⟨L,hL,rfl⟩:=h1;refine cu fun y hy2=>?_
   simp only[aa]at hy2;obtain⟨x,e1,hy2⟩:=hy2;split at hy2
   . rename_i st pe fn n K ps fm body d;obtain⟨tmps,ld,t1,t2,t3⟩:=yk H e1 hL;have hnb:st≠ .busy:=fun e=>by rw[e]at hy2;cases hy2
     have hy3:y=.one {s with h:=s.h.set q (.loop .exhausted pe fn n K ps fm body d),fr:={s.fr with todo:=(pe.map AI.code).toList++k}}:=by
      cases st<;>first|exact absurd rfl hnb|exact(au hy2).symm
     subst hy3;have hrun:(Instr.endLoop L.b).run P w=.ok pe {w with heap:=w.heap.setIfInBounds L.b (.loop {state:=.exhausted,pending:=pe,fn:=fn,tmps:=tmps,params:=ps,assign:=fm,body:=body,defers:=ld.b})}:=by
      have hget:(getObj L.b).run P w=.ok _ w:=hG t3 (fun _ _ _ h=>by cases h);have hset:∀ob,(setObj L.b ob).run P w=.ok () {w with heap:=w.heap.setIfInBounds L.b ob}:=fun ob=>lr t3 (fun _ _ _ h=>by cases h)
      have hb:(st == LoopState.busy)=false:=by cases st<;>first|rfl|exact absurd rfl hnb
      simp only[Instr.endLoop,Instr.getLoop,Sem.run_bind,hget,Result.andThen_ok,Sem.run_pure,hb,aN,if_false,hset]
     exact go hy hb2 (k:=(pe.map AI.code).toList++k) (k':=(pe.map Item.code).toList++k') (by cases pe with|none=>exact h2|some c=>exact cG rfl h2) (AH H e1 hL t1 t2 t3) rfl (stepR_endRangeFunc hrun)
   . cases hy2
 . rename_i k hA;rw[hA,cp (by trivial)]at hb;obtain⟨hb1,hb2⟩:=hb;obtain⟨y,k',hy,h1,h2⟩:=cD hb1;cases h1;refine cu fun y hy2=>?_
   simp only[aa]at hy2;obtain⟨q,hrd,x,e1,hy2⟩:=hy2;split at hy2
   . rename_i pe fn n K ps fm body d;cases hy2;have hro:=hf.rd;rw[hrd]at hro;obtain⟨L,hL,hro⟩:=hro;obtain⟨tmps,ld,t1,t2,t3⟩:=yk H e1 hL;have hrun:(Instr.beginRound L.b).run P w=.ok () {w with heap:=w.heap.setIfInBounds L.b (.loop {state:=.busy,pending:=pe,fn:=fn,tmps:=tmps,params:=ps,assign:=fm,body:=body,defers:=ld.b})}:=by
      have hget:(getObj L.b).run P w=.ok _ w:=hG t3 (fun _ _ _ h=>by cases h);have hset:∀ob,(setObj L.b ob).run P w=.ok () {w with heap:=w.heap.setIfInBounds L.b ob}:=fun ob=>lr t3 (fun _ _ _ h=>by cases h)
      simp only[Instr.beginRound,Instr.getLoop,Sem.run_bind,hget,Result.andThen_ok,Sem.run_pure,hset]
     exact go hy hb2 h2 (AH H e1 hL t1 t2 t3) rfl (stepR_beginRound hro hrun)
   . cases hy2
theorem Ou(hf:FR ρ s.fr fr u){t:Nat}(hk:∀ops K0 td pend k,s.fr.todo=.nF ops K0 td pend::k->D.writer ops t=none){x:AV}(hx:s.fr.K.get t=some x):∃v,conv ρ x=some v/\fr.tmps[t]?=some v:=by
 have hb:=hf.body
 cases hA:s.fr.todo with
 |nil=>rw[hA]at hb;exact hb.2.at_ t x hx
 |cons y k=>
  rw[hA]at hb
  cases y with
  |nF ops K0 td pend=>
   obtain⟨rest,k',l,_,_,hD⟩:=hb
   exact hD.Q1 t x hx fun j hj=>by rw[hk ops K0 td pend k hA]at hj;cases hj
  |_=>exact hb.2.at_ t x hx
theorem DV{tmps:Array Value}(f:ResultVar->Sem Value)(hf1:∀t,f (.tmp t)=pure (tmps.getD t undef))(hf2:∀p t,f (.cell p t)=(do loadVar t (<- asAddr (tmps.getD p undef))))(H:WR w0 ρ h w){K:Tr AV}:∀{rs:List ResultVar} {vs:List AV},xO P h K rs=some vs->
 (∀r∈rs,∀t,(r=.tmp t\/∃T,r=.cell t T)->∀x,K.get t=some x->∃v,conv ρ x=some v/\tmps[t]?=some v)->∃us,bO ρ vs=some us/\(rs.mapM f).run P w=.ok us w
 |[],vs,e,_=>by
  simp only[xO,af]at e;subst e;exact⟨[],rfl,by simp[Sem.run_pure]⟩
 |.tmp t::rs,vs,e,hk=>by
  simp only[xO,aa,ab]at e;obtain⟨x,e1,vs',e2,rfl⟩:=e;obtain⟨v,k1,k2⟩:=hk _ (aq ..) t (.inl rfl) x e1;obtain⟨us,g1,g2⟩:=DV f hf1 hf2 H e2 fun r hr=>hk r (ax _ hr)
  refine⟨v::us,lF k1 g1,?_⟩;have:tmps.getD t undef=v:=by simp[Array.getD_eq_getD_getElem?,k2]
  simp only[List.mapM_cons,Sem.run_bind,hf1,this,Sem.run_pure,Result.andThen_ok,g2]
 |.cell p t::rs,vs,e,hk=>by
  simp only[xO,aa,ab]at e;obtain⟨x,e1,v,e2,vs',e3,rfl⟩:=e;obtain⟨pv,k1,k2⟩:=hk _ (aq ..) p (.inr ⟨t,rfl⟩) x e1;obtain⟨us,g1,g2⟩:=DV f hf1 hf2 H e3 fun r hr=>hk r (ax _ hr)
  obtain⟨ad,v',q1,q2,q3⟩:=FM (P:=P) H k1 e2;refine⟨v'::us,lF q2 g1,?_⟩;have:tmps.getD p undef=.pointer (some ad):=by simp[Array.getD_eq_getD_getElem?,k2,q1]
  simp only[List.mapM_cons,Sem.run_bind,hf2,this,tw,Result.andThen_ok,q3,Sem.run_pure,g2]
theorem tu{fn:Func}(H:WR w0 ρ s.h w)(hf:FR ρ s.fr fr u){vs:List AV}(e:xO P s.h s.fr.K fn.results.toList=some vs)(hb:Av s.fr.todo fn.results.toList=true):∃v,(results fn fr.tmps).run P w=.ok v w/\conv ρ (Ig vs)=some v:=by
 obtain⟨us,g1,g2⟩:=DV (P:=P) (tmps:=fr.tmps) (fun
  |.tmp t=>pure (fr.tmps.getD t undef)
  |.cell a t=>do loadVar t (<- asAddr (fr.tmps.getD a undef))) (fun _=>rfl) (fun _ _=>rfl) H e (fun r hr t hrt x hx=>by
   refine Ou hf (fun ops K0 td pend k hA=>?_) hx;rw[hA]at hb;simp only[Av]at hb;have:=aE.1 hb r hr;rcases hrt with rfl|⟨T,rfl⟩
   . simpa using this
   . simpa using this)
 have hm:(fn.results.mapM fun
  |.tmp t=>pure (fr.tmps.getD t undef)
  |.cell a t=>do loadVar t (<- asAddr (fr.tmps.getD a undef)):Sem (Array Value)).run P w=.ok us.toArray w:=by
  rw[Array.mapM_eq_mapM_toList]
  rw[Sem.run_map,g2]
  rfl
 refine⟨if h:us.toArray.size=1 then us.toArray[0]else .tuple us.toArray,(by unfold results;rw[Sem.run_bind];exact congrArg (fun q=>Result.andThen q fun vs w'=>(pure (if h:vs.size=1 then vs[0]else .tuple vs):Sem Value).run P w') hm),?_⟩;have hl:=dD g1
 match vs,us,g1,hl with
 |[],[],_,_=>rfl
 |[x],[v],g1,_=>
  obtain⟨v',_,h1,h2,_⟩:=cR g1
  cases h1
  simpa[Ig]using h2
 |x::y::vs,v::v2::us,g1,_=>
  simp only[Ig,conv,g1,ak]
  simp
end
end Go.Proofs.YtjfkdglgecgjfaaGreat.R
namespace Go.Proofs.YtjfkdglgecgjfaaGreat.R
open Go.RowKit
section
variable {P:Program}{w0 w w':World}{cs0 cs:List Frame}{ρ ρ':jE}{h h':HS}{u us:List Nat}{fr:Frame}{s:n7}
theorem w9{x:AD}{l:List AD}{ys:List Deferred}(h:fo ρ (x::l)=some ys):∃y l',ys=y::l'/\qj ρ x=some y/\fo ρ l=some l':=by
 simp only[fo,aa,ab]at h;obtain⟨y,h1,l',h2,h3⟩:=h;exact⟨y,l',h3.symm,h1,h2⟩
theorem MC{m:AM}{m':FrameMode}(h:fc ρ m=some m'):fc ρ (D1 m)=some (settle m'):=by
 cases m with
 |run=>simp only[fc,af]at h;subst h;rfl
 |ret=>simp only[fc,af]at h;subst h;rfl
 |GR l=>
  have h0:=h
  simp only[fc,ab]at h
  obtain⟨l',h1,rfl⟩:=h
  cases l with
  |nil=>simp only[gL,af]at h1;subst h1;exact h0
  |cons p l=>
   obtain⟨v,b⟩:=p
   simp only[gL,aa,ab]at h1
   obtain⟨v',g1,l2,g2,rfl⟩:=h1
   cases b with
   |false=>exact h0
   |true=>
    have hd:∀{l:List (AV×Bool)} {l2:List PanicEntry},gL ρ l=some l2->l2.dropWhile (!·.goexit)=[]:=by
     intro l
     induction l with
     |nil=>intro l2 e;simp only[gL,af]at e;subst e;rfl
     |cons p l ih=>
      intro l2 e
      obtain⟨q,c⟩:=p
      simp only[gL,aa,ab]at e
      obtain⟨q',_,l3,g,rfl⟩:=e
      simp only[List.dropWhile_cons,Bool.not_false,if_true]
      exact ih g
    simp only[D1,fc,settle,hd g2]
theorem MG(H:WR w0 ρ s.h w)(hf:FR ρ s.fr fr u)(hcs:EF ρ s.cs cs us)(hF:fQ ρ s.h.nx (u++us))(hm:s.fr.mode≠ .run):gk P w0 cs0 (lone fr (cs++cs0) w) (sb P s):=by
 have hrun:fr.mode≠ .run:=fun e=>by
  have:=hf.mode;rw[e]at this
  cases hA:s.fr.mode with
  |run=>exact hm hA
  |ret=>rw[hA]at this;cases this
  |GR l=>rw[hA]at this;simp only[fc,ab]at this;obtain⟨_,_,h2⟩:=this;cases h2
 unfold sb;split
 . rename_i q ds hA;have hds:=hf.ds;rw[hA]at hds;obtain⟨d,ds',hdf,h1,h2⟩:=w9 hds;simp only[qj,ab]at h1;obtain⟨L,hL,rfl⟩:=h1;refine cu fun y hy=>?_
   simp only[aa]at hy;obtain⟨x,e1,hy⟩:=hy;split at hy
   . cases hy;have hob:w.heap[L.b]?=some (.deferred (some [])):=H.obj _ _ _ e1 hL;have hget:(getObj L.b).run P w=.ok _ w:=hG hob (fun _ _ _ h=>by cases h);have hset:∀ob,(setObj L.b ob).run P w=.ok () {w with heap:=w.heap.setIfInBounds L.b ob}:=fun ob=>lr hob (fun _ _ _ h=>by cases h)
     have hk:(Instr.takeDeferred L.b).run P w=.ok [] {w with heap:=w.heap.setIfInBounds L.b (.deferred none)}:=by
      simp only[Instr.takeDeferred,Sem.run_bind,hget,Result.andThen_ok,hset,Sem.run_pure]
     have hst:=step_collected (P:=P) (cs:=cs++cs0) hrun hdf rfl hk;refine⟨_,Steps.one hst,ρ,_,cs,_,u,us,rfl,H.set e1 hL (eD w L.b (.deferred none)) (fun b hb=>eL w L.b _ b hb) (by exact ku w _ hob),⟨hf.fn,hf.kind,hf.rd,hf.mode,?_,hf.body,hf.XB⟩,hcs,hF⟩;exact h2
   . cases hy
 . rename_i f cap args ds hA;have hds:=hf.ds;rw[hA]at hds;obtain⟨d,ds',hdf,h1,h2⟩:=w9 hds;simp only[qj,aa,ab]at h1;obtain⟨cap',q1,args',q2,rfl⟩:=h1;split
   . rename_i g;split
     . rename_i hen;refine cu fun y hy=>?_
       simp only[ab]at hy;obtain⟨A',e1,rfl⟩:=hy;have hi:(invoke (.fn (.func g) cap'.toArray) args'.toArray).run P w=.ok (.enter g (args'++cap').toArray) w:=by
        have:=oC hen ((args'++cap').toArray) w;simp only[invoke];rw[<- this];congr 2;simp
       have hst:=step_defer (P:=P) (cs:=cs++cs0) hrun hdf rfl hi;exact⟨_,Steps.one hst,ρ,_,{fr with defers:=ds'}::cs,w,[],u++us,rfl,H,uj e1 (cy q2 q1),.cons ⟨hf.fn,hf.kind,hf.rd,hf.mode,h2,hf.body,hf.XB⟩ (hf.XB.resolve_left hm) hcs,hF⟩
     . trivial
   . trivial
 . rename_i hA;have hds:=hf.ds;rw[hA]at hds;simp only[fo,af]at hds;split
   . trivial
   . rename_i l hmode;have hfm:=hf.mode;rw[hmode]at hfm;simp only[fc,ab]at hfm;obtain⟨l',g1,g2⟩:=hfm;split
     . rename_i c ccs fn hcc hfn;rw[hcc]at hcs;obtain⟨cf,cfs,u1,us1,rfl,rfl,c1,c2,c3⟩:=hcs.cons_inv;have hlv:fr.leaving P w (.panicked l'):=⟨g2.symm,hds.symm,fn,by rw[hf.fn];exact hfn⟩;have hst:=step_leave_panicked (c:=cf) (cs:=cfs++cs0) hlv;exact⟨_,Steps.one hst,ρ,_,cfs,w,u1,us1,rfl,H,Gc c1 c2 g1,c3,my hF⟩
     . trivial
   . rename_i hmode;have hfm:=hf.mode;rw[hmode]at hfm;simp only[fc,af]at hfm;split
     . trivial
     . rename_i c ccs hcc;refine cu fun y hy=>?_
       simp only[aa]at hy;obtain⟨fn,hfn,vs,e1,hy⟩:=hy;rw[hcc]at hcs;obtain⟨cf,cfs,u1,us1,rfl,rfl,c1,c2,c3⟩:=hcs.cons_inv;split at hy
       . rename_i hb hkind;simp only[ab]at hy;obtain⟨A',e2,rfl⟩:=hy;obtain⟨v,k1,k2⟩:=tu (P:=P) H hf e1 hb;have hlv:fr.leaving P w (.returned v):=⟨hfm.symm,hds.symm,by rw[hf.kind,hkind],fn,by rw[hf.fn];exact hfn,k1⟩;have hst:=step_leave_returned (c:=cf) (cs:=cfs++cs0) hlv;exact⟨_,Steps.one hst,ρ,_,cfs,w,u1,us1,rfl,H,(ey c1 c2 k2 e2).1,c3,my hF⟩
       . rename_i hb hkind;cases hy;obtain⟨v,k1,k2⟩:=tu (P:=P) H hf e1 hb;have hgo:fr.going P w (.returned v):=⟨hfm.symm,hds.symm,fn,by rw[hf.fn];exact hfn,k1⟩;have hst:=step_going_returned (c:=cf) (cs:=cfs++cs0) (by rw[hf.kind,hkind]) hgo;exact⟨_,Steps.one hst,ρ,_,cfs,w,u1,us1,rfl,H,⟨c1.fn,c1.kind,c1.rd,MC c1.mode,c1.ds,c1.body,.inr c2⟩,c3,my hF⟩
       . cases hy
theorem AZ(hX:fj P w0){m:Machine}(hS:EG w0 cs0 s m):gk P w0 cs0 m (fe P s):=by
 obtain⟨ρ,fr,cs,w,u,us,rfl,H,hf,hcs,hF⟩:=hS;unfold fe;split
 . rename_i hmode;have:=hf.mode;rw[hmode]at this;simp only[fc,af]at this;exact R8 hX H hf hcs hF this.symm
 . rename_i hmode;exact MG H hf hcs hF fun e=>hmode e
end
end Go.Proofs.YtjfkdglgecgjfaaGreat.R
namespace Go.Proofs.YtjfkdglgecgjfaaGreat.R
open Go.RowKit
noncomputable section
structure Cx where
 e:Nat
 cs:List AF
 fn:FuncId
 n:Nat
 ds:List AD
 kind:CallKind
 rd:Option Nat
def Cx.fr(c:Cx)(K:Tr AV)(td:List AI)(md:AM):AF:=⟨c.fn,c.n,K,td,c.ds,md,c.kind,c.rd⟩
def Cx.st(c:Cx)(h:HS)(K:Tr AV)(td:List AI)(md:AM):n7:=⟨h,c.fr K td md,c.cs⟩
inductive Rt where
 |ret (h:HS) (v:AV)
 |stop (c:Cx) (h:HS) (K:Tr AV) (td:List AI) (md:AM)
abbrev cm:=Option (List Rt)
abbrev pS:=Cx->HS->Tr AV->List AI->AM->cm
def iO(a b:Bool):Bool:=Bool.rec (motive:=fun _=>Bool) false b a
def Oe(n d:Nat):List (List Nat):=match iO (Nat.beq n 512) (Nat.beq d 9)with|true=>[[0,1,103,110,111,112,113,114,115,116,117,339,340,341,342,343,344,422,426,428,466,468,469,470,477,478,479,484,486,487,488,489,490,491,492]]|false=>match iO (Nat.beq n 552) (Nat.beq d 10)with|true=>[[0,1,103,110,111,112,113,114,115,116,117,339,340,341,342,343,344,422,426,428,466,468,469,470,477,478,479,484,486,487,488,489,490,491,492,512,513,514,515,521,523,530,535,537,538,540,541,551],[0,1,103,110,111,112,113,114,115,116,117,339,340,341,342,343,344,422,426,428,466,468,469,470,477,478,479,484,486,487,488,489,490,491,492,512,513,514,515,523,528,530,535,537,538,540,541,551]]|false=>match iO (Nat.beq n 553) (Nat.beq d 10)with|true=>[[0,1,103,110,111,112,113,114,115,116,117,339,340,341,342,343,344,422,426,428,466,468,469,470,477,478,479,484,486,487,488,489,490,491,492,512,513,514,515,521,523,530,535,537,538,541,542,552],[0,1,103,110,111,112,113,114,115,116,117,339,340,341,342,343,344,422,426,428,466,468,469,470,477,478,479,484,486,487,488,489,490,491,492,512,513,514,515,523,528,530,535,537,538,541,542,552]]|false=>match iO (Nat.beq n 575) (Nat.beq d 10)with|true=>[[0,1,103,110,111,112,113,114,115,116,117,339,340,341,342,343,344,422,426,428,466,468,469,470,477,478,479,484,486,487,488,489,490,491,492,512,513,514,515,521,523,530,535,537,552,553,560,563,564,574],[0,1,103,110,111,112,113,114,115,116,117,339,340,341,342,343,344,422,426,428,466,468,469,470,477,478,479,484,486,487,488,489,490,491,492,512,513,514,515,523,528,530,535,537,552,553,560,563,564,574]]|false=>match iO (Nat.beq n 576) (Nat.beq d 10)with|true=>[[0,1,103,110,111,112,113,114,115,116,117,339,340,341,342,343,344,422,426,428,466,468,469,470,477,478,479,484,486,487,488,489,490,491,492,512,513,514,515,521,523,530,535,537,553,554,561,564,565,575],[0,1,103,110,111,112,113,114,115,116,117,339,340,341,342,343,344,422,426,428,466,468,469,470,477,478,479,484,486,487,488,489,490,491,492,512,513,514,515,523,528,530,535,537,553,554,561,564,565,575]]|false=>match iO (Nat.beq n 577) (Nat.beq d 8)with|true=>[[0,1,103,110,111,112,113,114,115,116,117,339,340,341,342,343,344,422,426,428,466,468,469,470,477,478,479,484,486,487,488,489,490,491,576]]|false=>match iO (Nat.beq n 578) (Nat.beq d 7)with|true=>[[0,1,103,110,111,112,113,114,115,116,117,339,340,341,342,343,344,422,426,428,466,468,469,470,477,478,479,484,486,487,488,489]]|false=>match iO (Nat.beq n 578) (Nat.beq d 8)with|true=>[[0,1,103,110,111,112,113,114,115,116,117,339,340,341,342,343,344,422,426,428,466,468,469,470,477,478,479,484,486,487,488,489,490,491,577]]|false=>match iO (Nat.beq n 615) (Nat.beq d 9)with|true=>[[0,1,103,110,111,112,113,114,115,116,117,339,340,341,342,343,344,422,426,428,466,468,469,470,477,478,479,484,486,487,488,489,579,580,581,582,608]]|false=>match iO (Nat.beq n 623) (Nat.beq d 9)with|true=>[[0,1,103,110,111,112,113,114,115,116,117,339,340,341,342,343,344,422,426,428,466,468,469,470,477,478,479,484,486,487,488,489,579,580,581,582,608,615,616,617,618]]|false=>[]
def Og(n d:Nat):Bool:=match iO (Nat.beq n 517) (Nat.beq d 10)with|true=>true|false=>false
def km{α β:Type}(x:Option α)(f:α->Option β):Option β:=Option.rec (motive:=fun _=>Option β) none f x
def vr{α β γ:Type}(f:α->β->Option γ)(x:Option α)(y:Option β):Option γ:=Option.rec (motive:=fun _=>Option γ) none (fun u=>Option.rec (motive:=fun _=>Option γ) none (f u) y) x
def rA(x:Operand):Tr AV->Option AV:=Operand.rec (motive:=fun _=>Tr AV->Option AV)
 (fun t K=>oQ (xl t) K) (fun v _=>some (BS v)) (fun g _=>some (.p (.pointer (some ⟨g,0,none⟩)))) (fun f _=>some (.fn (.func f) [] [])) x
def V2(k:IntKind)(lim n:Nat):Option AV:=Bool.rec (motive:=fun _=>Option AV) none (uy k n) (Nat.ble (Nat.succ n) lim)
def V3(k:IntKind)(m n:Nat):Option AV:=uy k (Nat.mod n m)
def nQ(k:IntKind):Nat->Option AV:=IntKind.rec (motive:=fun _=>Nat->Option AV)
 (V2 .i8 128) (V2 .i16 32768) (V2 .i32 2147483648) (V2 .i64 9223372036854775808) (V3 .u8 256) (V3 .u16 65536) (V3 .u32 4294967296) (V3 .u64 18446744073709551616) k
def G5(k:IntKind):Nat:=IntKind.rec (motive:=fun _=>Nat) 8 16 32 64 8 16 32 64 k
def nf(k:IntKind):Nat:=IntKind.rec (motive:=fun _=>Nat) 0 1 2 3 4 5 6 7 k
def yR(b:Bool):Option AV:=Bool.rec (motive:=fun _=>Option AV) (some (.p (.bool false))) (some (.p (.bool true))) b
def Lv(b:Bool):Option AV:=Bool.rec (motive:=fun _=>Option AV) (some (.p (.bool true))) (some (.p (.bool false))) b
def zW(op:BinOp):IntKind->Nat->Nat->Option AV:=BinOp.rec (motive:=fun _=>IntKind->Nat->Nat->Option AV)
 (fun k a b=>nQ k (Nat.add a b))
 (fun k a b=>Bool.rec (motive:=fun _=>Option AV) none (nQ k (Nat.sub a b)) (Nat.ble b a))
 (fun k a b=>nQ k (Nat.mul a b))
 (fun k a b=>Nat.rec (motive:=fun _=>Option AV) none (fun _ _=>nQ k (Nat.div a b)) b)
 (fun k a b=>Nat.rec (motive:=fun _=>Option AV) none (fun _ _=>uy k (Nat.mod a b)) b)
 (fun k a b=>nQ k (Nat.land a b))
 (fun k a b=>nQ k (Nat.lor a b))
 (fun k a b=>nQ k (Nat.xor a b))
 (fun k a b=>Bool.rec (motive:=fun _=>Option AV) none (nQ k (Nat.mul a (Nat.pow 2 b))) (Nat.ble b (G5 k)))
 (fun k a b=>Bool.rec (motive:=fun _=>Option AV) none (uy k (Nat.div a (Nat.pow 2 b))) (Nat.ble b (G5 k)))
 (fun _ _ _=>none)
 (fun _ a b=>yR (Nat.beq a b))
 (fun _ a b=>Lv (Nat.beq a b))
 (fun _ a b=>yR (Nat.ble (Nat.succ a) b))
 (fun _ a b=>yR (Nat.ble a b))
 (fun _ a b=>yR (Nat.ble (Nat.succ b) a))
 (fun _ a b=>yR (Nat.ble b a)) op
def Xy(op:BinOp):Bool:=BinOp.rec (motive:=fun _=>Bool) false false false false false false false false true true false false false false false false false op
def We(op:BinOp)(k:IntKind)(a:Nat)(l:IntKind)(b:Nat):Option AV:=Bool.rec (motive:=fun _=>Option AV)
 (Bool.rec (motive:=fun _=>Option AV) none (zW op k a b) (Nat.beq (nf k) (nf l))) (zW op k a b) (Xy op)
def XH(u:Value):(IntKind->Int->Option AV)->Option AV:=Value.rec (motive_1:=fun _=>(IntKind->Int->Option AV)->Option AV) (motive_2:=fun _=>PUnit) (motive_3:=fun _=>PUnit) (fun _ _=>none) (fun k i q=>q k i) (fun _ _ _=>none) (fun _ _ _ _=>none) (fun _ _=>none) (fun _ _=>none) (fun _ _ _ _=>none) (fun _ _=>none) (fun _ _=>none) (fun _ _ _ _ _ _=>none) (fun _=>none) (fun _ _ _ _=>none) (fun _=>none) (fun _ _ _=>none) (fun _ _ _=>none) (fun _ _=>⟨⟩) ⟨⟩ (fun _ _ _ _=>⟨⟩) u
def toI(x:AV):(IntKind->Int->Option AV)->Option AV:=AV.rec (motive_1:=fun _=>(IntKind->Int->Option AV)->Option AV) (motive_2:=fun _=>PUnit) (fun u q=>XH u q) (fun _ _ _=>none) (fun _ _ _ _ _ _=>none) (fun _ _=>none) (fun _ _ _ _ _ _=>none) (fun _ _=>none) (fun _ _ _ _=>none) (fun _ _ _=>none) (fun _ _ _=>none) ⟨⟩ (fun _ _ _ _=>⟨⟩) x
def HW(i:Int):(Nat->Option AV)->Option AV:=Int.rec (motive:=fun _=>(Nat->Option AV)->Option AV) (fun n q=>q n) (fun _ _=>none) i
def Nj(op:BinOp)(k:IntKind)(a:Nat)(l:IntKind)(j:Int):Option AV:=HW j (We op k a l)
def Tw(op:BinOp)(y:AV)(k:IntKind)(i:Int):Option AV:=HW i fun a=>toI y (Nj op k a)
def Wg(op:BinOp)(x y:AV):Option AV:=toI x (Tw op y)
def XG(u:Value):(Bool->Option AV)->Option AV:=Value.rec (motive_1:=fun _=>(Bool->Option AV)->Option AV) (motive_2:=fun _=>PUnit) (motive_3:=fun _=>PUnit) (fun b q=>q b) (fun _ _ _=>none) (fun _ _ _=>none) (fun _ _ _ _=>none) (fun _ _=>none) (fun _ _=>none) (fun _ _ _ _=>none) (fun _ _=>none) (fun _ _=>none) (fun _ _ _ _ _ _=>none) (fun _=>none) (fun _ _ _ _=>none) (fun _=>none) (fun _ _ _=>none) (fun _ _ _=>none) (fun _ _=>⟨⟩) ⟨⟩ (fun _ _ _ _=>⟨⟩) u
def toB(x:AV):(Bool->Option AV)->Option AV:=AV.rec (motive_1:=fun _=>(Bool->Option AV)->Option AV) (motive_2:=fun _=>PUnit) (fun u q=>XG u q) (fun _ _ _=>none) (fun _ _ _ _ _ _=>none) (fun _ _=>none) (fun _ _ _ _ _ _=>none) (fun _ _=>none) (fun _ _ _ _=>none) (fun _ _ _=>none) (fun _ _ _=>none) ⟨⟩ (fun _ _ _ _=>⟨⟩) x
def Xg(k:IntKind)(i:Int):Option AV:=Fo k (k.wrap (0-i))
def YM(op:UnOp):AV->Option AV:=UnOp.rec (motive:=fun _=>AV->Option AV) (fun x=>toI x Xg) (fun _=>none) (fun x=>toB x Lv) (fun _=>none) op
def XN(P:Program)(s d:TypeId):Option IntKind:=match P.underlying s,P.underlying d with
 |some _,some (.int k)=>some k
 |_,_=>none
def Yv(q:Option IntKind):AV->Option AV:=Option.rec (motive:=fun _=>AV->Option AV) (fun _=>none) (fun k x=>toI x fun _ i=>Int.rec (motive:=fun _=>Option AV) (nQ k) (fun m=>Fo k (k.wrap (.negSucc m))) i) q
def toP(x:AV):(Nat->Nat->Option AV)->Option AV:=AV.rec (motive_1:=fun _=>(Nat->Nat->Option AV)->Option AV) (motive_2:=fun _=>PUnit) (fun _ _=>none) (fun o f q=>q o f) (fun _ _ _ _ _ _=>none) (fun _ _=>none) (fun _ _ _ _ _ _=>none) (fun _ _=>none) (fun _ _ _ _=>none) (fun _ _ _=>none) (fun _ _ _=>none) ⟨⟩ (fun _ _ _ _=>⟨⟩) x
def Su(l:List AV):Nat->Option AV:=List.rec (motive:=fun _=>Nat->Option AV) (fun _=>none) (fun x _ ih n=>Nat.rec (motive:=fun _=>Option AV) (some x) (fun m _=>ih m) n) l
def V1(q:Option (Bool×Nat)):List AV->Nat->Option AV:=Option.rec (motive:=fun _=>List AV->Nat->Option AV) (fun _ _=>none)
 (fun q l f=>Bool.rec (motive:=fun _=>Option AV) (Su l f) (km (cX l f q.2) fun l=>some (.agg l)) q.1) q
def YU(q:Option (Bool×Nat))(f:Nat)(x:AO):Option AV:=AO.rec (motive:=fun _=>Option (Bool×Nat)->Nat->Option AV) (fun l _ q f=>V1 q l f) (fun _ _ _ _=>none) (fun _ _ _ _ _ _=>none) (fun _ _ _ _=>none) (fun _ _ _ _ _ _ _ _ _ _ _=>none) (fun _ _ _=>none) x q f
def XT(q:Option (Bool×Nat))(h:HS)(x:AV):Option AV:=toP x fun o f=>km (oQ (xl o) h.H) (YU q f)
def YH(u:Value):Bool:=Value.rec (motive_1:=fun _=>Bool) (motive_2:=fun _=>PUnit) (motive_3:=fun _=>PUnit) (fun _=>true) (fun _ _=>true) (fun _ _=>true) (fun _ _ _=>true) (fun _=>true) (fun _=>true) (fun _ _ _=>true) (fun _=>true) (fun _=>true) (fun _ _ _ _ _=>true) (true) (fun _ _ _=>true) (true) (fun _ _=>false) (fun _ _=>false) (fun _ _=>⟨⟩) ⟨⟩ (fun _ _ _ _=>⟨⟩) u
def Yb(x:AV):Bool:=AV.rec (motive_1:=fun _=>Bool) (motive_2:=fun _=>PUnit) (fun u=>YH u) (fun _ _=>true) (fun _ _ _ _ _=>true) (fun _=>true) (fun _ _ _ _ _=>true) (fun _=>true) (fun _ _ _=>true) (fun _ _=>false) (fun _ _=>false) ⟨⟩ (fun _ _ _ _=>⟨⟩) x
def S4(v:AV)(l:List AV):Nat->Option (List AV):=List.rec (motive:=fun _=>Nat->Option (List AV)) (fun _=>none)
 (fun x l ih n=>Nat.rec (motive:=fun _=>Option (List AV)) (some (v::l)) (fun m _=>km (ih m) fun l=>some (x::l)) n) l
def Tf(P:Program)(t:TypeId):Bool:=match P.info? t with
 |some i=>Nat.beq 1 i.size
 |none=>false
def YK(h:HS)(o:Nat)(T:TypeId)(l:List AV):Option HS:=some ⟨BJ (xl o) (some (.cells l T)) h.H,h.nx⟩
def YY(h:HS)(v:AV)(o f:Nat)(x:AO):Option HS:=AO.rec (motive:=fun _=>HS->AV->Nat->Nat->Option HS) (fun l T h v o f=>km (S4 v l f) (YK h o T)) (fun _ _ _ _ _ _=>none) (fun _ _ _ _ _ _ _ _=>none) (fun _ _ _ _ _ _=>none) (fun _ _ _ _ _ _ _ _ _ _ _ _ _=>none) (fun _ _ _ _ _=>none) x h v o f
def toPH(x:AV):(Nat->Nat->Option HS)->Option HS:=AV.rec (motive_1:=fun _=>(Nat->Nat->Option HS)->Option HS) (motive_2:=fun _=>PUnit) (fun _ _=>none) (fun o f q=>q o f) (fun _ _ _ _ _ _=>none) (fun _ _=>none) (fun _ _ _ _ _ _=>none) (fun _ _=>none) (fun _ _ _ _=>none) (fun _ _ _=>none) (fun _ _ _=>none) ⟨⟩ (fun _ _ _ _=>⟨⟩) x
def Ym(h:HS)(z:Bool)(a v:AV):Option HS:=Bool.rec (motive:=fun _=>Option HS) none
 (Bool.rec (motive:=fun _=>Option HS) none (toPH a fun o f=>km (oQ (xl o) h.H) (YY h v o f)) (Yb v)) z
def UH(P:Program)(t:TypeId)(i:Nat):Option Nat:=match P.underlying t with
 |some (.struct fs)=>(fs[i]?).bind fun fl=>(P.info? fl.type).bind fun inf=>match Nat.beq inf.size 0 with
  |false=>some fl.offset
  |true=>none
 |_=>none
def LY(o f:Nat):Option AV:=Nat.rec (motive:=fun _=>Option AV) (some (.ptr o 0)) (fun m _=>some (.ptr o (Nat.succ m))) f
def YA(q:Option Nat)(x:AV):Option AV:=km q fun d=>toP x fun o f=>LY o (Nat.add f d)
def UI(P:Program)(t:TypeId)(i:Nat):Option (Nat×Option (Bool×Nat)):=match P.underlying t with
 |some (.struct fs)=>(fs[i]?).map fun fl=>(fl.offset,eA P fl.type)
 |_=>none
def toG(x:AV):(List AV->Option AV)->Option AV:=AV.rec (motive_1:=fun _=>(List AV->Option AV)->Option AV) (motive_2:=fun _=>PUnit) (fun _ _=>none) (fun _ _ _=>none) (fun _ _ _ _ _ _=>none) (fun _ _=>none) (fun _ _ _ _ _ _=>none) (fun _ _=>none) (fun _ _ _ _=>none) (fun l _ q=>q l) (fun _ _ _=>none) ⟨⟩ (fun _ _ _ _=>⟨⟩) x
def toT(x:AV):(List AV->Option AV)->Option AV:=AV.rec (motive_1:=fun _=>(List AV->Option AV)->Option AV) (motive_2:=fun _=>PUnit) (fun _ _=>none) (fun _ _ _=>none) (fun _ _ _ _ _ _=>none) (fun _ _=>none) (fun _ _ _ _ _ _=>none) (fun _ _=>none) (fun _ _ _ _=>none) (fun _ _ _=>none) (fun l _ q=>q l) ⟨⟩ (fun _ _ _ _=>⟨⟩) x
def YB(q:Option (Nat×Option (Bool×Nat)))(x:AV):Option AV:=km q fun q=>toG x fun l=>V1 q.2 l q.1
def Yz(i:Nat)(x:AV):Option AV:=toT x fun l=>Su l i
def UW(P:Program)(t:TypeId):Option (Option Nat×Nat):=match P.underlying t with
 |some (.array n e)=>(P.info? e).map fun i=>(some n,i.size)
 |some (.slice e)=>(P.info? e).map fun i=>(none,i.size)
 |_=>none
def YC(n z:Nat)(x:AV)(i:Nat):Option AV:=toP x fun o f=>Bool.rec (motive:=fun _=>Option AV) none (LY o (Nat.add f (Nat.mul i z))) (Nat.ble (Nat.succ i) n)
def toS(x:AV):(Nat->Nat->Nat->Option AV)->Option AV:=AV.rec (motive_1:=fun _=>(Nat->Nat->Nat->Option AV)->Option AV) (motive_2:=fun _=>PUnit) (fun _ _=>none) (fun _ _ _=>none) (fun o f n _ _ q=>q o f n) (fun _ _=>none) (fun _ _ _ _ _ _=>none) (fun _ _=>none) (fun _ _ _ _=>none) (fun _ _ _=>none) (fun _ _ _=>none) ⟨⟩ (fun _ _ _ _=>⟨⟩) x
def YD(z:Nat)(x:AV)(i:Nat):Option AV:=toS x fun o f n=>Bool.rec (motive:=fun _=>Option AV) none (LY o (Nat.add f (Nat.mul i z))) (Nat.ble (Nat.succ i) n)
def YT(q:Option Nat):Nat->AV->Nat->Option AV:=Option.rec (motive:=fun _=>Nat->AV->Nat->Option AV) YD YC q
def YE(q:Option (Option Nat×Nat))(x y:AV):Option AV:=km q fun q=>toI y fun _ i=>HW i (YT q.1 q.2 x)
def UY(P:Program)(t:TypeId):Option (Nat×Nat×Option (Bool×Nat)):=match P.underlying t with
 |some (.array n e)=>(P.info? e).map fun i=>(n,i.size,eA P e)
 |_=>none
def YG(q:Option (Nat×Nat×Option (Bool×Nat)))(x y:AV):Option AV:=km q fun q=>toI y fun _ i=>HW i fun i=>toG x fun l=>
 Bool.rec (motive:=fun _=>Option AV) none (V1 q.2.2 l (Nat.mul i q.2.1)) (Nat.ble (Nat.succ i) q.1)
def YW(x:AV):Option AV:=AV.rec (motive_1:=fun _=>Option AV) (motive_2:=fun _=>PUnit) (fun _=>none) (fun o f=>some (.ptr o f)) (fun _ _ _ _ _=>none) (fun _=>none) (fun _ _ _ _ _=>none) (fun _=>none) (fun _ _ _=>none) (fun _ _=>none) (fun _ _=>none) ⟨⟩ (fun _ _ _ _=>⟨⟩) x
inductive RV where
 |val (v:AV)
 |jk (h:HS)
 |enter (g:FuncId) (args:List AV)
 |ext (v:AV) (g:FuncId) (args:List AV)
 |cY
def vR(x:Option AV):RV:=Option.rec (motive:=fun _=>RV) .cY .val x
def uR(x:Option HS):RV:=Option.rec (motive:=fun _=>RV) .cY .jk x
inductive CP where
 |fn (g:FuncId) (args:List Operand)
 |ext (g:FuncId) (args:List Operand)
 |len (x:Operand)
 |no
def O8(P:Program)(c:Call):CP:=match c.callee with
 |.value (.func g)=>(match mu P g with|true=>(match UE g with|true=>.ext g c.args.toList|false=>.fn g c.args.toList)|false=>.no)
 |.builtin .len=>(match c.argTypes.toList,c.args.toList with
  |t::_,[x]=>(match P.underlying t with|some (.slice _)=>.len x|_=>.no)
  |_,_=>.no)
 |_=>.no
def Db(l:List Operand):Tr AV->Option (List AV):=List.rec (motive:=fun _=>Tr AV->Option (List AV)) (fun _=>some []) (fun x _ ih K=>vr (fun v l=>some (v::l)) (rA x K) (ih K)) l
def Yx(g:FuncId)(x:Option (List AV)):RV:=Option.rec (motive:=fun _=>RV) .cY (.enter g) x
def YV(x:AV):Option AV:=toS x fun _ _ n=>uy .i64 n
def Wz(g:FuncId)(l:List AV)(x:Option AV):RV:=Option.rec (motive:=fun _=>RV) .cY (fun v=>.ext v g l) x
def WA(h:HS)(g:FuncId)(x:Option (List AV)):RV:=Option.rec (motive:=fun _=>RV) .cY (fun l=>Wz g l (xH g h l)) x
def Yu(q:CP):HS->Tr AV->RV:=CP.rec (motive:=fun _=>HS->Tr AV->RV) (fun g l _ K=>Yx g (Db l K)) (fun g l h K=>WA h g (Db l K)) (fun x _ K=>vR (km (rA x K) YV)) (fun _ _=>.cY) q
def SF(o:Op):Program->HS->Tr AV->RV:=Op.rec (motive:=fun _=>Program->HS->Tr AV->RV)
 (fun x _ _ K=>vR (rA x K))
 (fun x _ _ K=>vR (rA x K))
 (fun _ _ _ _ _ _=>.cY)
 (fun _ _ _ _=>.cY)
 (fun _ _ _ _ _=>.cY)
 (fun _ _ _ _ _=>.cY)
 (fun _ _ _ _ _ _=>.cY)
 (fun _ _ _ _ _ _ _=>.cY)
 (fun t x P h K=>vR (km (rA x K) (XT (eA P t) h)))
 (fun t x y P h K=>uR (km (rA x K) (fun a=>km (rA y K) (Ym h (Tf P t) a))))
 (fun _ _ _ _=>.cY)
 (fun _ _ _ _=>.cY)
 (fun x _ _ K=>vR (km (rA x K) YW))
 (fun op _ x y _ _ _ K=>vR (vr (Wg op) (rA x K) (rA y K)))
 (fun op _ x _ _ K=>vR (km (rA x K) (YM op)))
 (fun s d x P _ K=>vR (km (rA x K) (Yv (XN P s d))))
 (fun _ _ _ _ _=>.cY)
 (fun _ _ _ _ _=>.cY)
 (fun _ _ _ _ _ _=>.cY)
 (fun _ _ _ _ _=>.cY)
 (fun _ _ _ _ _=>.cY)
 (fun _ _ _ _ _ _=>.cY)
 (fun _ _ _ _ _ _ _ _=>.cY)
 (fun t x i P _ K=>vR (km (rA x K) (YA (UH P t i))))
 (fun t x i P _ K=>vR (km (rA x K) (YB (UI P t i))))
 (fun t x y P _ K=>vR (vr (YE (UW P t)) (rA x K) (rA y K)))
 (fun t x y P _ K=>vR (vr (YG (UY P t)) (rA x K) (rA y K)))
 (fun _ _ _ _ _ _ _=>.cY)
 (fun _ _ _ _ _ _ _=>.cY)
 (fun _ _ _ _ _ _=>.cY)
 (fun _ _ _ _ _ _ _=>.cY)
 (fun _ _ _ _ _=>.cY)
 (fun _ _ _ _ _=>.cY)
 (fun _ _ _ _=>.cY)
 (fun _ _ _ _ _ _ _=>.cY)
 (fun x i _ _ K=>vR (km (rA x K) (Yz i)))
 (fun c P h K=>Yu (O8 P c) h K)
 (fun _ _ _ _=>.cY)
 (fun _ _ _ _=>.cY)
 (fun _ _ _ _=>.cY)
 (fun _ _ _ _ _=>.cY)
 (fun _ _ _ _ _ _=>.cY)
 (fun _ _ _ _ _=>.cY) o
def VY(a b:Bool):Bool:=Bool.rec (motive:=fun _=>Bool) (Bool.rec (motive:=fun _=>Bool) true false b) b a
def Yy(i j:Int):Bool:=Int.rec (motive:=fun _=>Bool) (fun a=>Int.rec (motive:=fun _=>Bool) (fun b=>Nat.beq a b) (fun _=>false) j) (fun _=>false) i
def vI(u:Value):(IntKind->Int->Bool)->Bool:=Value.rec (motive_1:=fun _=>(IntKind->Int->Bool)->Bool) (motive_2:=fun _=>PUnit) (motive_3:=fun _=>PUnit) (fun _ _=>false) (fun k i q=>q k i) (fun _ _ _=>false) (fun _ _ _ _=>false) (fun _ _=>false) (fun _ _=>false) (fun _ _ _ _=>false) (fun _ _=>false) (fun _ _=>false) (fun _ _ _ _ _ _=>false) (fun _=>false) (fun _ _ _ _=>false) (fun _=>false) (fun _ _ _=>false) (fun _ _ _=>false) (fun _ _=>⟨⟩) ⟨⟩ (fun _ _ _ _=>⟨⟩) u
def vB(u:Value):(Bool->Bool)->Bool:=Value.rec (motive_1:=fun _=>(Bool->Bool)->Bool) (motive_2:=fun _=>PUnit) (motive_3:=fun _=>PUnit) (fun b q=>q b) (fun _ _ _=>false) (fun _ _ _=>false) (fun _ _ _ _=>false) (fun _ _=>false) (fun _ _=>false) (fun _ _ _ _=>false) (fun _ _=>false) (fun _ _=>false) (fun _ _ _ _ _ _=>false) (fun _=>false) (fun _ _ _ _=>false) (fun _=>false) (fun _ _ _=>false) (fun _ _ _=>false) (fun _ _=>⟨⟩) ⟨⟩ (fun _ _ _ _=>⟨⟩) u
def tg{α:Type}(a:Option α):Bool:=Option.rec (motive:=fun _=>Bool) true (fun _=>false) a
def Y5(u:Value):Bool:=Value.rec (motive_1:=fun _=>Bool) (motive_2:=fun _=>PUnit) (motive_3:=fun _=>PUnit) (fun _=>false) (fun _ _=>false) (fun _ _=>false) (fun _ _ _=>false) (fun _=>false) (fun a=>tg a) (fun _ _ _=>false) (fun _=>false) (fun _=>false) (fun _ _ _ _ _=>false) (false) (fun _ _ _=>false) (false) (fun _ _=>false) (fun _ _=>false) (fun _ _=>⟨⟩) ⟨⟩ (fun _ _ _ _=>⟨⟩) u
def Y6(u:Value):(Nat->Nat->Bool)->Bool:=Value.rec (motive_1:=fun _=>(Nat->Nat->Bool)->Bool) (motive_2:=fun _=>PUnit) (motive_3:=fun _=>PUnit) (fun _ _=>false) (fun _ _ _=>false) (fun _ _ _=>false) (fun _ _ _ _=>false) (fun _ _=>false) (fun _ _=>false) (fun a n c q=>iO (tg a) (q n c)) (fun _ _=>false) (fun _ _=>false) (fun _ _ _ _ _ _=>false) (fun _=>false) (fun _ _ _ _=>false) (fun _=>false) (fun _ _ _=>false) (fun _ _ _=>false) (fun _ _=>⟨⟩) ⟨⟩ (fun _ _ _ _=>⟨⟩) u
def Y4(u:Value):Bool:=Value.rec (motive_1:=fun _=>Bool) (motive_2:=fun _=>PUnit) (motive_3:=fun _=>PUnit) (fun _=>false) (fun _ _=>false) (fun _ _=>false) (fun _ _ _=>false) (fun _=>false) (fun _=>false) (fun _ _ _=>false) (fun r=>tg r) (fun _=>false) (fun _ _ _ _ _=>false) (false) (fun _ _ _=>false) (false) (fun _ _=>false) (fun _ _=>false) (fun _ _=>⟨⟩) ⟨⟩ (fun _ _ _ _=>⟨⟩) u
def Y0(u:Value):Bool:=Value.rec (motive_1:=fun _=>Bool) (motive_2:=fun _=>PUnit) (motive_3:=fun _=>PUnit) (fun _=>false) (fun _ _=>false) (fun _ _=>false) (fun _ _ _=>false) (fun _=>false) (fun _=>false) (fun _ _ _=>false) (fun _=>false) (fun _=>false) (fun _ _ _ _ _=>false) (true) (fun _ _ _=>false) (false) (fun _ _=>false) (fun _ _=>false) (fun _ _=>⟨⟩) ⟨⟩ (fun _ _ _ _=>⟨⟩) u
def Y3(u:Value):Bool:=Value.rec (motive_1:=fun _=>Bool) (motive_2:=fun _=>PUnit) (motive_3:=fun _=>PUnit) (fun _=>false) (fun _ _=>false) (fun _ _=>false) (fun _ _ _=>false) (fun _=>false) (fun _=>false) (fun _ _ _=>false) (fun _=>false) (fun _=>false) (fun _ _ _ _ _=>false) (false) (fun _ _ _=>false) (true) (fun _ _=>false) (fun _ _=>false) (fun _ _=>⟨⟩) ⟨⟩ (fun _ _ _ _=>⟨⟩) u
def X2(u:Value):Value->Bool:=Value.rec (motive_1:=fun _=>Value->Bool) (motive_2:=fun _=>PUnit) (motive_3:=fun _=>PUnit) (fun b w=>vB w (VY b)) (fun k i w=>vI w fun l j=>iO (Nat.beq (nf k) (nf l)) (Yy i j)) (fun _ _ _=>false) (fun _ _ _ _=>false) (fun _ _=>false) (fun a w=>iO (tg a) (Y5 w)) (fun a n c w=>iO (tg a) (Y6 w fun m d=>iO (Nat.beq n m) (Nat.beq c d))) (fun r w=>iO (tg r) (Y4 w)) (fun _ _=>false) (fun _ _ _ _ _ _=>false) (fun w=>Y0 w) (fun _ _ _ _=>false) (fun w=>Y3 w) (fun _ _ _=>false) (fun _ _ _=>false) (fun _ _=>⟨⟩) ⟨⟩ (fun _ _ _ _=>⟨⟩) u
def xP(x:AV):(Value->Bool)->Bool:=AV.rec (motive_1:=fun _=>(Value->Bool)->Bool) (motive_2:=fun _=>PUnit) (fun u q=>q u) (fun _ _ _=>false) (fun _ _ _ _ _ _=>false) (fun _ _=>false) (fun _ _ _ _ _ _=>false) (fun _ _=>false) (fun _ _ _ _=>false) (fun _ _ _=>false) (fun _ _ _=>false) ⟨⟩ (fun _ _ _ _=>⟨⟩) x
def xR(x:AV):(Nat->Nat->Bool)->Bool:=AV.rec (motive_1:=fun _=>(Nat->Nat->Bool)->Bool) (motive_2:=fun _=>PUnit) (fun _ _=>false) (fun o f q=>q o f) (fun _ _ _ _ _ _=>false) (fun _ _=>false) (fun _ _ _ _ _ _=>false) (fun _ _=>false) (fun _ _ _ _=>false) (fun _ _ _=>false) (fun _ _ _=>false) ⟨⟩ (fun _ _ _ _=>⟨⟩) x
def xS(x:AV):(Nat->Nat->Nat->Option Nat->Nat->Bool)->Bool:=AV.rec (motive_1:=fun _=>(Nat->Nat->Nat->Option Nat->Nat->Bool)->Bool) (motive_2:=fun _=>PUnit) (fun _ _=>false) (fun _ _ _=>false) (fun o f n c z q=>q o f n c z) (fun _ _=>false) (fun _ _ _ _ _ _=>false) (fun _ _=>false) (fun _ _ _ _=>false) (fun _ _ _=>false) (fun _ _ _=>false) ⟨⟩ (fun _ _ _ _=>⟨⟩) x
def xA(x:AV):(List AV->Bool)->Bool:=AV.rec (motive_1:=fun _=>(List AV->Bool)->Bool) (motive_2:=fun _=>PUnit) (fun _ _=>false) (fun _ _ _=>false) (fun _ _ _ _ _ _=>false) (fun _ _=>false) (fun _ _ _ _ _ _=>false) (fun _ _=>false) (fun _ _ _ _=>false) (fun l _ q=>q l) (fun _ _ _=>false) ⟨⟩ (fun _ _ _ _=>⟨⟩) x
def xT(x:AV):(List AV->Bool)->Bool:=AV.rec (motive_1:=fun _=>(List AV->Bool)->Bool) (motive_2:=fun _=>PUnit) (fun _ _=>false) (fun _ _ _=>false) (fun _ _ _ _ _ _=>false) (fun _ _=>false) (fun _ _ _ _ _ _=>false) (fun _ _=>false) (fun _ _ _ _=>false) (fun _ _ _=>false) (fun l _ q=>q l) ⟨⟩ (fun _ _ _ _=>⟨⟩) x
def Xi(l:List AV):Bool:=List.rec (motive:=fun _=>Bool) true (fun _ _ _=>false) l
def xM(x:AV):(Nat->Bool)->Bool:=AV.rec (motive_1:=fun _=>(Nat->Bool)->Bool) (motive_2:=fun _=>PUnit) (fun _ _=>false) (fun _ _ _=>false) (fun _ _ _ _ _ _=>false) (fun o q=>q o) (fun _ _ _ _ _ _=>false) (fun _ _=>false) (fun _ _ _ _=>false) (fun _ _ _=>false) (fun _ _ _=>false) ⟨⟩ (fun _ _ _ _=>⟨⟩) x
def Fg(x:AV):AV->Bool:=AV.rec (motive_1:=fun _=>AV->Bool) (motive_2:=fun _=>List AV->Bool) (fun u y=>xP y (X2 u)) (fun o f y=>xR y fun p g=>iO (Nat.beq o p) (Nat.beq f g)) (fun o f n c z y=>xS y fun p g m d w=>iO (Nat.beq o p) (iO (Nat.beq f g) (iO (Nat.beq n m) (iO (XP c d) (Nat.beq z w))))) (fun o y=>xM y (Nat.beq o)) (fun _ _ _ _ _ _=>false) (fun _ _=>false) (fun _ _ _ _=>false) (fun _ il y=>xA y il) (fun _ il y=>xT y il) Xi (fun _ _ ix il l=>List.rec (motive:=fun _=>Bool) false (fun y l _=>iO (ix y) (il l)) l) x
def J7(l m:List AV):Bool:=List.rec (motive:=fun _=>List AV->Bool) Xi (fun x _ ih m=>List.rec (motive:=fun _=>Bool) false (fun y m _=>iO (Fg x y) (ih m)) m) l m
def Jz(l m:List (AV×AV×Nat)):Bool:=List.rec (motive:=fun _=>List (AV×AV×Nat)->Bool) (fun m=>List.rec (motive:=fun _=>Bool) true (fun _ _ _=>false) m)
 (fun x _ ih m=>List.rec (motive:=fun _=>Bool) false (fun y m _=>iO (iO (Fg x.1 y.1) (iO (Fg x.2.1 y.2.1) (Nat.beq x.2.2 y.2.2))) (ih m)) m) l m
def yC(x:AO):(List AV->TypeId->Bool)->Bool:=AO.rec (motive:=fun _=>(List AV->TypeId->Bool)->Bool) (fun l T q=>q l T) (fun _ _ _=>false) (fun _ _ _ _ _=>false) (fun _ _ _=>false) (fun _ _ _ _ _ _ _ _ _ _=>false) (fun _ _=>false) x
def yM(x:AO):(List (AV×AV×Nat)->Nat->Bool)->Bool:=AO.rec (motive:=fun _=>(List (AV×AV×Nat)->Nat->Bool)->Bool) (fun _ _ _=>false) (fun es c q=>q es c) (fun _ _ _ _ _=>false) (fun _ _ _=>false) (fun _ _ _ _ _ _ _ _ _ _=>false) (fun _ _=>false) x
def X1(x y:AO):Bool:=AO.rec (motive:=fun _=>AO->Bool) (fun l T w=>yC w fun m U=>iO (J7 l m) (Nat.beq T U)) (fun es c w=>yM w fun fs d=>iO (Jz es fs) (Nat.beq c d)) (fun _ _ _ _ _=>false) (fun _ _ _=>false) (fun _ _ _ _ _ _ _ _ _ _=>false) (fun _ _=>false) x y
def Vw(x:Option AO)(y:Option AO):Bool:=Option.rec (motive:=fun _=>Bool) false (fun a=>Option.rec (motive:=fun _=>Bool) false (fun b=>X1 a b) y) x
def xQ(ids:List Nat)(H:Tr AO):Tr AO:=List.rec (motive:=fun _=>Tr AO) .nil (fun o _ t=>BJ (xl o) (oQ (xl o) H) t) ids
def JR(ids:List Nat)(H G:Tr AO):Bool:=List.rec (motive:=fun _=>Bool) true (fun o _ r=>iO (Vw (oQ (xl o) H) (oQ (xl o) G)) r) ids
def HP(a b:Nat):Nat:=Bool.rec (motive:=fun _=>Nat) a b (Nat.ble a b)
def allEq(ids:List Nat)(q:HS×AV)(l:List (HS×AV)):Bool:=List.rec (motive:=fun _=>Bool) true (fun p _ r=>iO (Fg p.2 q.2) (iO (JR ids p.1.H q.1.H) r)) l
def FO(l:List (HS×AV)):Nat:=List.rec (motive:=fun _=>Nat) 0 (fun p _ r=>HP p.1.nx r) l
def Vu(l:List (HS×AV))(q:HS×AV)(L:List (List Nat)):List (HS×AV):=List.rec (motive:=fun _=>List (HS×AV)) l (fun ids _ ih=>Bool.rec (motive:=fun _=>List (HS×AV)) ih [(⟨xQ ids q.1.H,FO l⟩,q.2)] (allEq ids q l)) L
def Dq(l:List AF):Nat:=List.rec (motive:=fun _=>Nat) 0 (fun _ _ n=>Nat.succ n) l
def JT(d:Nat)(l:List (HS×AV)):List (HS×AV):=List.rec (motive:=fun _=>List (HS×AV)) [] (fun q t _=>List.rec (motive:=fun _=>List (HS×AV)) l (fun _ _ _=>Vu l q (Oe q.1.nx d)) t) l
def FB(cs:List AF)(l:List (HS×AV)):List (HS×AV):=List.rec (motive:=fun _=>List (HS×AV)) l (fun _ t _=>JT (Dq t) l) cs
def oO(ops:Array Oper)(i:Nat):Option Oper:=ops[i]?
def YJ(ops:Array Oper):List Nat:=List.range ops.size
def nT(ih:pS)(c:Cx)(h:HS)(K:Tr AV)(td:List AI)(d:Option Nat):AV->cm:=Option.rec (motive:=fun _=>AV->cm) (fun _=>ih c h K td .run)
 (fun d v=>Bool.rec (motive:=fun _=>cm) none (ih c h (BJ (xl d) (some v) K) td .run) (Nat.ble (Nat.succ d) c.n)) d
def zC(n:Nat)(f:Nat->cm):cm:=Nat.rec (motive:=fun _=>cm) (f 0) (fun m _=>f (Nat.succ m)) n
def N7{α:Type}(l:List α)(f:List α->cm):cm:=List.rec (motive:=fun _=>cm) (f []) (fun a l _=>f (a::l)) l
def UL(o:Option Nat)(f:Option Nat->cm):cm:=Option.rec (motive:=fun _=>cm) (f none) (fun n=>f (some n)) o
def UM(t:Tr AV)(f:Tr AV->cm):cm:=Tr.rec (motive:=fun _=>cm) (f .nil) (fun v a b c d _ _ _ _=>f (.nd v a b c d)) t
def UK(k:CallKind)(f:CallKind->cm):cm:=CallKind.rec (motive:=fun _=>cm) (f .normal) (f .deferred) (f .wrapped) (f .report) (f .early) k
def N8(t:Tr AO)(f:Tr AO->cm):cm:=Tr.rec (motive:=fun _=>cm) (f .nil) (fun v a b c d _ _ _ _=>f (.nd v a b c d)) t
def UJ(h:HS)(f:HS->cm):cm:=HS.rec (motive:=fun _=>cm) (fun H nx=>zC nx fun nx=>N8 H fun H=>f ⟨H,nx⟩) h
def Wc(ih:pS)(e:Nat)(cs:List AF)(h:HS)(A:AF):cm:=AF.rec (motive:=fun _=>cm) (fun fn n K td ds md kind rd=>
 zC fn fun fn=>zC n fun n=>N7 ds fun ds=>UK kind fun kind=>UL rd fun rd=>UM K fun K=>ih ⟨e,cs,fn,n,ds,kind,rd⟩ h K td md) A
def pX(ih:pS)(e:Nat)(s:n7):cm:=n7.rec (motive:=fun _=>cm) (fun h A cs=>N7 cs fun cs=>UJ h fun h=>Wc ih e cs h A) s
def Fa(ops:Array Oper)(j:Nat):Option Nat:=(oO ops j).bind (·.dst)
def Bz(ops:Array Oper)(c:Nat)(l:List (Nat×Fl)):List (Nat×Fl):=List.rec (motive:=fun _=>List (Nat×Fl)) [] (fun q _ r=>Bool.rec (motive:=fun _=>List (Nat×Fl)) (q::r) r (D.mS ops q.1 c)) l
def X3(x:AI):pS->Nat->List AF->FuncId->Nat->List AD->CallKind->Option Nat->HS->Tr AV->List AI->AV->cm->cm:=
 AI.rec (motive:=fun _=>pS->Nat->List AF->FuncId->Nat->List AD->CallKind->Option Nat->HS->Tr AV->List AI->AV->cm->cm)
 (fun _ _ _ _ _ _ _ _ _ _ _ _ _ z=>z)
 (fun _ _ _ _ _ _ _ _ _ _ _ _ _ z=>z)
 (fun _ _ _ _ _ _ _ _ _ _ _ _ _ z=>z)
 (fun _ _ _ _ _ _ _ _ _ _ _ _ _ z=>z)
 (fun ops l ih e cs fn n ds kind rd h K k v z=>List.rec (motive:=fun _=>cm) z (fun i l _=>nT ih ⟨e,cs,fn,n,ds,kind,rd⟩ h K (.ops ops l::k) (Fa ops i) v) l)
 (fun ops K0 td pe ih e cs fn n ds kind rd h K k v z=>List.rec (motive:=fun _=>cm) z (fun i l _=>nT ih ⟨e,cs,fn,n,ds,kind,rd⟩ h K (.nF ops K0 l (Bz ops i pe)::k) (Fa ops i) v) td)
 (fun o ih e cs fn n ds kind rd h K k _ _=>ih ⟨e,cs,fn,n,ds,kind,rd⟩ h K (.er o::k) .run)
 (fun _ _ _ _ _ _ _ _ _ _ _ _ _ z=>z)
 (fun _ _ _ _ _ _ _ _ _ _ _ _ z=>z) x
def zx(A:AF)(ih:pS)(e:Nat)(cs:List AF)(h:HS)(v:AV)(z:cm):cm:=
 AF.rec (motive:=fun _=>cm) (fun fn n K td ds md kind rd=>AM.rec (motive:=fun _=>cm) (List.rec (motive:=fun _=>cm) z (fun x k _=>X3 x ih e cs fn n ds kind rd h K k v z) td) z (fun _=>z) md) A
abbrev V5:=Option (List (HS×AV))
def SJ(l:List Rt):V5:=List.rec (motive:=fun _=>V5) (some []) (fun x _ r=>Rt.rec (motive:=fun _=>V5) (fun h v=>km r fun l=>some ((h,v)::l)) (fun _ _ _ _ _=>none) x) l
def Lk{α:Type}(g:α->cm)(l:List α):V5:=List.rec (motive:=fun _=>V5) (some []) (fun s _ r=>vr (fun a b=>some (a++b)) (km (g s) SJ) r) l
def Wb(l:List (HS×AV)):List Rt:=List.rec (motive:=fun _=>List Rt) [] (fun q _ r=>.ret q.1 q.2::r) l
def one?(l:List (HS×AV)):Option (HS×AV):=match l with
 |[s]=>some s
 |_=>none
def Jv(ih:pS)(e:Nat):List AF->List (HS×AV)->cm:=Nat.rec (motive:=fun _=>List AF->List (HS×AV)->cm) (fun _ l=>some (Wb l))
 (fun e go cs l=>List.rec (motive:=fun _=>cm) none (fun A cs _=>Option.rec (motive:=fun _=>cm)
  (km (Lk (fun q=>zx A ih 0 cs q.1 q.2 none) l) fun l=>go cs (FB cs l)) (fun q=>zx A ih e cs q.1 q.2 none) (one? l)) cs) e
def Vl(k:CallKind):Bool:=match k with
 |.normal=>true
 |_=>false
def Yc(ih:pS)(c:Cx)(s:n7):cm:=Nat.rec (motive:=fun _=>cm) (Bool.rec (motive:=fun _=>cm) none (pX ih 0 s) (Vl c.kind)) (fun e _=>pX ih (Nat.succ e) s) c.e
def Yh(ih:pS)(e:Nat)(s:n7):cm:=Nat.rec (motive:=fun _=>cm) none (fun e _=>pX ih e s) e
def cY(P:Program)(ih:pS)(c:Cx)(h:HS)(K:Tr AV)(td:List AI)(md:AM):cm:=match fe P (Cx.rec (motive:=fun _=>n7) (fun _ cs fn n ds kind rd=>⟨h,⟨fn,n,K,td,ds,md,kind,rd⟩,cs⟩) c)with
 |.one s=>Yc ih c s
 |.push s=>pX ih (Nat.succ c.e) s
 |.pop s=>Yh ih c.e s
 |.many l=>Bool.rec (motive:=fun _=>cm) (km (Lk (pX ih 0) l) fun l=>Jv ih c.e c.cs (FB c.cs l)) (some [.stop c h K td md]) (Og h.nx (Dq c.cs))
 |.fin=>none
 |.bad _=>none
def Ji(P:Program)(g:FuncId):Option (Code×Nat):=(P.funcs[g]?).bind fun fn=>fn.body.map fun c=>(c,fn.ntmps)
def QX(l:List AV):Nat->Tr AV->Tr AV:=List.rec (motive:=fun _=>Nat->Tr AV->Tr AV) (fun _ K=>K) (fun v _ ih i K=>ih (Nat.succ i) (BJ (xl i) (some v) K)) l
def Sd(l:List AV):Nat:=List.rec (motive:=fun _=>Nat) 0 (fun _ _ n=>Nat.succ n) l
def Jm(P:Program)(ih:pS)(c:Cx)(h:HS)(K:Tr AV)(td:List AI)(g:FuncId)(args:List AV):cm:=km (Ji P g) fun q=>Prod.rec (motive:=fun _=>cm) (fun cd m=>zC m fun m=>
 Bool.rec (motive:=fun _=>cm) none (Cx.rec (motive:=fun _=>cm) (fun e cs fn n ds kind rd=>ih ⟨Nat.succ e,⟨fn,n,K,td,ds,.run,kind,rd⟩::cs,g,m,[],.normal,none⟩ h (QX args 0 .nil) [.code cd] .run) c) (Nat.ble (Sd args) m)) q
def XW(r:RV):Program->pS->Cx->HS->Tr AV->Array Oper->Nat->List Nat->List AI->Option Nat->cm:=
 RV.rec (motive:=fun _=>Program->pS->Cx->HS->Tr AV->Array Oper->Nat->List Nat->List AI->Option Nat->cm)
 (fun v _ ih c h K ops _ l k d=>nT ih c h K (.ops ops l::k) d v)
 (fun h' _ ih c _ K ops _ l k d=>nT ih c h' K (.ops ops l::k) d fg)
 (fun g a P ih c h K ops i l k _=>Jm P ih c h K (.ops ops (i::l)::k) g a)
 (fun v _ _ _ ih c h K ops _ l k d=>nT ih c h K (.ops ops l::k) d v)
 (fun P ih c h K ops i l k _=>cY P ih c h K (.ops ops (i::l)::k) .run) r
def Xl(P:Program)(ih:pS)(c:Cx)(h:HS)(K:Tr AV)(ops:Array Oper)(i:Nat)(l:List Nat)(k:List AI)(o:Oper):cm:=
 XW (SF o.op P h K) P ih c h K ops i l k o.dst
def XF(u:Value):(Bool->cm)->cm->cm:=Value.rec (motive_1:=fun _=>(Bool->cm)->cm->cm) (motive_2:=fun _=>PUnit) (motive_3:=fun _=>PUnit) (fun b q _=>q b) (fun _ _ _ z=>z) (fun _ _ _ z=>z) (fun _ _ _ _ z=>z) (fun _ _ z=>z) (fun _ _ z=>z) (fun _ _ _ _ z=>z) (fun _ _ z=>z) (fun _ _ z=>z) (fun _ _ _ _ _ _ z=>z) (fun _ z=>z) (fun _ _ _ _ z=>z) (fun _ z=>z) (fun _ _ _ z=>z) (fun _ _ _ z=>z) (fun _ _=>⟨⟩) ⟨⟩ (fun _ _ _ _=>⟨⟩) u
def toA(x:AV):(Bool->cm)->cm->cm:=AV.rec (motive_1:=fun _=>(Bool->cm)->cm->cm) (motive_2:=fun _=>PUnit) (fun u q z=>XF u q z) (fun _ _ _ z=>z) (fun _ _ _ _ z _ z=>z) (fun _ _ z=>z) (fun _ _ _ _ _ _ z=>z) (fun _ _ z=>z) (fun _ _ _ _ z=>z) (fun _ _ _ z=>z) (fun _ _ _ z=>z) ⟨⟩ (fun _ _ _ _=>⟨⟩) x
def UU(g:Option (Nat×Bool)):Program->pS->Cx->HS->Tr AV->Array Oper->Nat->List Nat->List AI->Oper->cm:=
 Option.rec (motive:=fun _=>Program->pS->Cx->HS->Tr AV->Array Oper->Nat->List Nat->List AI->Oper->cm) Xl
 (fun g P ih c h K ops i l k o=>Option.rec (motive:=fun _=>cm) none
  (fun v=>toA v (fun b=>Bool.rec (motive:=fun _=>cm) (nT ih c h K (.ops ops l::k) o.dst fg) (Xl P ih c h K ops i l k o) (VY b g.2)) (cY P ih c h K (.ops ops (i::l)::k) .run))
  (km (Fa ops g.1) fun d=>oQ (xl d) K)) g
def Xm(P:Program)(ih:pS)(c:Cx)(h:HS)(K:Tr AV)(ops:Array Oper)(k:List AI)(l:List Nat):cm:=List.rec (motive:=fun _=>cm) (ih c h K k .run)
 (fun i l _=>Option.rec (motive:=fun _=>cm) none (fun o=>UU o.guard P ih c h K ops i l k o) (oO ops i)) l
def TE(o:Oper):Bool:=match o.guard with
 |none=>true
 |some _=>false
def Na(ops:Array Oper)(td:List Nat)(i:Nat):Bool:=td.any fun c=>D.mS ops c i
def HR(ops:Array Oper)(i:Nat)(o:Oper):Bool:=(o.looksAt ops).all fun t=>match D.writer ops t with
 |none=>true
 |some j=>D.mS ops j i
def Vx(ops:Array Oper)(td:List Nat):Bool:=match td with
 |[]=>true
 |c::t=>t.all fun c'=>D.mS ops c c'
def Ui(P:Program)(ops:Array Oper)(n:Nat):Bool:=P.follows .mixedOrders&&Ha ops n
def Un(K:Tr AV)(n:Nat)(v:AV)(d:Option Nat):Bool:=Option.rec (motive:=fun _=>Bool) true (fun d=>Bool.rec (motive:=fun _=>Bool) false (Option.rec (motive:=fun _=>Bool) false (fun u=>Fg u v) (oQ (xl d) K)) (Nat.ble (Nat.succ d) n)) d
abbrev ER:=Option (Tr AV×List (Nat×Fl))
def Gz(ih:Tr AV->ER)(q:Nat×Fl)(K:Tr AV):ER:=km (ih K) fun r=>some (r.1,q::r.2)
def XA(n:Nat)(ih:Tr AV->ER)(i:Nat)(K:Tr AV)(v:AV)(d:Option Nat):ER:=Option.rec (motive:=fun _=>ER) (Gz ih (i,.val) K)
 (fun d=>Bool.rec (motive:=fun _=>ER) none (Gz ih (i,.val) (BJ (xl d) (some v) K)) (Nat.ble (Nat.succ d) n)) d
def VJ(P:Program)(ops:Array Oper)(n:Nat)(h:HS)(ih:Tr AV->ER)(i:Nat)(K:Tr AV)(o:Oper):ER:=
 Bool.rec (motive:=fun _=>ER) none (Bool.rec (motive:=fun _=>ER) none (RV.rec (motive:=fun _=>ER) (fun v=>XA n ih i K v o.dst) (fun _=>none) (fun _ _=>none) (fun _ _ _=>none) none (SF o.op P h K)) (TE o)) (HR ops i o)
def D2(P:Program)(ops:Array Oper)(td:List Nat)(n:Nat)(h:HS)(l:List (Nat×Fl)):Tr AV->ER:=List.rec (motive:=fun _=>Tr AV->ER) (fun K=>some (K,[]))
 (fun q _ ih K=>Fl.rec (motive:=fun _=>ER) (Bool.rec (motive:=fun _=>ER) (km (oO ops q.1) (VJ P ops n h ih q.1 K)) (Gz ih q K) (Na ops td q.1)) (Gz ih q K) (fun _=>Gz ih q K) q.2) l
def Uh(P:Program)(ops:Array Oper)(n:Nat)(h:HS)(K:Tr AV)(i:Nat)(o:Oper):Bool:=
 iO (HR ops i o) (iO (TE o) (RV.rec (motive:=fun _=>Bool) (fun v=>Un K n v o.dst) (fun _=>false) (fun _ _=>false) (fun _ _ _=>false) false (SF o.op P h K)))
def Np(P:Program)(ops:Array Oper)(td:List Nat)(n:Nat)(h:HS)(K:Tr AV)(l:List (Nat×Fl)):Bool:=List.rec (motive:=fun _=>Bool) true
 (fun q _ r=>iO (Fl.rec (motive:=fun _=>Bool) (Na ops td q.1) (Option.rec (motive:=fun _=>Bool) false (Uh P ops n h K q.1) (oO ops q.1)) (fun _=>false) q.2) r) l
def NI(P:Program)(ih:pS)(c:Cx)(h:HS)(K:Tr AV)(ops:Array Oper)(K0:Tr AV)(i:Nat)(t:List Nat)(pe:List (Nat×Fl))(k:List AI)(z:cm)(o:Oper):cm:=
 Bool.rec (motive:=fun _=>cm) z (Bool.rec (motive:=fun _=>cm) z (RV.rec (motive:=fun _=>cm)
  (fun v=>nT ih c h K (.nF ops K0 t (Bz ops i pe)::k) o.dst v) (fun h=>nT ih c h K (.nF ops K0 t (Bz ops i pe)::k) o.dst fg)
  (fun g a=>Jm P ih c h K (.nF ops K0 (i::t) pe::k) g a)
  (fun v _ _=>nT ih c h K (.nF ops K0 t (Bz ops i pe)::k) o.dst v) z (SF o.op P h K)) (TE o)) (HR ops i o)
def XZ(P:Program)(ih:pS)(c:Cx)(h:HS)(ops:Array Oper)(K0:Tr AV)(td:List Nat)(k:List AI)(z:cm)(r:Tr AV×List (Nat×Fl)):cm:=Prod.rec (motive:=fun _=>cm) (fun K pe=>
 Bool.rec (motive:=fun _=>cm) z (Bool.rec (motive:=fun _=>cm) z (List.rec (motive:=fun _=>cm) (ih c h K k .run) (fun i t _=>Option.rec (motive:=fun _=>cm) z (NI P ih c h K ops K0 i t pe k z) (oO ops i)) td) (Vx ops td)) (Np P ops td c.n h K pe)) r
def NG(P:Program)(ih:pS)(c:Cx)(h:HS)(K:Tr AV)(ops:Array Oper)(K0:Tr AV)(td:List Nat)(pe:List (Nat×Fl))(k:List AI)(z:cm):cm:=
 Option.rec (motive:=fun _=>cm) z (XZ P ih c h ops K0 td k z) (D2 P ops td c.n h pe K)
def Nw(P:Program)(ih:pS)(c:Cx)(h:HS)(K:Tr AV)(k:List AI)(a b:Code)(z:cm)(x:Operand):cm:=Option.rec (motive:=fun _=>cm) z
 (fun v=>toA v (fun t=>Bool.rec (motive:=fun _=>cm) (ih c h K (.code b::k) .run) (ih c h K (.code a::k) .run) t) z) (rA x K)
def Wy(id:Nat)(l:List AI):Option (List AI):=List.rec (motive:=fun _=>Option (List AI)) none
 (fun x k ih=>AI.rec (motive:=fun _=>Nat->List AI->Option (List AI)->Option (List AI))
 (fun _ _ _ ih=>ih)
 (fun id n k ih=>Bool.rec (motive:=fun _=>Option (List AI)) ih (some k) (Nat.beq id n))
 (fun _ _ _ ih=>ih)
 (fun _ _ _ ih=>ih)
 (fun _ _ _ _ ih=>ih)
 (fun _ _ _ _ _ _ ih=>ih)
 (fun _ _ _ ih=>ih)
 (fun _ _ _ ih=>ih)
 (fun _ _ ih=>ih) x id k ih) l
def Xn(P:Program)(h:HS)(K:Tr AV)(r:ResultVar):Option AV:=ResultVar.rec (motive:=fun _=>Option AV) (fun t=>oQ (xl t) K) (fun a t=>km (oQ (xl a) K) (XT (eA P t) h)) r
def Pf(P:Program)(h:HS)(K:Tr AV)(l:List ResultVar):Option (List AV):=List.rec (motive:=fun _=>Option (List AV)) (some []) (fun r _ ih=>vr (fun v l=>some (v::l)) (Xn P h K r) ih) l
def SI(P:Program)(f:FuncId):Option (List ResultVar):=(P.funcs[f]?).map fun fn=>fn.results.toList
def Ax(l:List AV):AV:=List.rec (motive:=fun _=>AV) (.dv []) (fun x l _=>List.rec (motive:=fun _=>AV) x (fun y l _=>.dv (x::y::l)) l) l
def Uq(cs:List AF)(h:HS)(v:AV)(z:cm):cm:=List.rec (motive:=fun _=>cm) (some [.ret h v]) (fun A cs _=>zx A (fun _ _ _ _ _=>some [.ret h v]) 0 cs h v z) cs
def Xo(P:Program)(ih:pS)(c:Cx)(h:HS)(K:Tr AV)(z:cm):cm:=zC c.fn fun f=>Option.rec (motive:=fun _=>cm) z
 (fun l=>Nat.rec (motive:=fun _=>cm) (Uq c.cs h (Ax l) z) (fun e _=>List.rec (motive:=fun _=>cm) z (fun A cs _=>zx A ih e cs h (Ax l) z) c.cs) c.e) (km (SI P f) (Pf P h K))
def Pg(P:Program)(ih:pS)(c:Cx)(h:HS)(K:Tr AV)(z:cm):cm:=Option.rec (motive:=fun _=>cm)
 (List.rec (motive:=fun _=>cm) (Bool.rec (motive:=fun _=>cm) z (Xo P ih c h K z) (Vl c.kind)) (fun _ _ _=>z) c.ds) (fun _=>z) c.rd
def Ty(x:Code):Program->pS->Cx->HS->Tr AV->List AI->cm:=Code.rec (motive:=fun _=>Program->pS->Cx->HS->Tr AV->List AI->cm)
 (fun _ ih c h K k=>ih c h K k .run)
 (fun id ops dr P ih c h K k=>Bool.rec (motive:=fun _=>cm) (ih c h K (.ops ops (YJ ops)::k) .run) (Bool.rec (motive:=fun _=>cm) (cY P ih c h K (.code (.region id ops dr)::k) .run) (ih c h K (.nF ops K (vy ops) (tp ops)::k) .run) (Ui P ops c.n)) dr)
 (fun a b _ _ _ ih c h K k=>ih c h K (.code a:: .code b::k) .run)
 (fun x a b _ _ P ih c h K k=>Nw P ih c h K k a b (cY P ih c h K (.code (.cond x a b)::k) .run) x)
 (fun id b _ _ ih c h K k=>ih c h K (.code b:: .kj id::k) .run)
 (fun b _ _ ih c h K k=>ih c h K (.code b:: .lp b::k) .run)
 (fun f ps a b _ _ P ih c h K k=>cY P ih c h K (.code (.rangeFunc f ps a b)::k) .run)
 (fun id P ih c h K k=>Option.rec (motive:=fun _=>cm) (cY P ih c h K (.code (.exit id)::k) .run) (fun k=>ih c h K k .run) (Wy id k))
 (fun b _ _ ih c h K k=>ih c h K (.code b:: .sc b::k) .run)
 (fun n P ih c h K k=>cY P ih c h K (.code (.label n)::k) .run)
 (fun n P ih c h K k=>cY P ih c h K (.code (.goto n)::k) .run)
 (fun P ih c h K k=>Pg P ih c h K (cY P ih c h K (.code .ret::k) .run))
 (fun y P ih c h K k=>cY P ih c h K (.code (.refuse y)::k) .run) x
def TH(x:AI):Program->pS->Cx->HS->Tr AV->List AI->cm:=AI.rec (motive:=fun _=>Program->pS->Cx->HS->Tr AV->List AI->cm)
 (fun cd P ih c h K k=>Ty cd P ih c h K k)
 (fun _ _ ih c h K k=>ih c h K k .run)
 (fun cd _ ih c h K k=>ih c h K (.code cd:: .lp cd::k) .run)
 (fun _ _ ih c h K k=>ih c h K k .run)
 (fun ops l P ih c h K k=>Xm P ih c h K ops k l)
 (fun ops K0 td pe P ih c h K k=>NG P ih c h K ops K0 td pe k (cY P ih c h K (.nF ops K0 td pe::k) .run))
 (fun o P ih c h K k=>cY P ih c h K (.rf o::k) .run)
 (fun o P ih c h K k=>cY P ih c h K (.er o::k) .run)
 (fun P ih c h K k=>cY P ih c h K (.br::k) .run) x
def Yk(x:AI):Program->pS->Cx->HS->Tr AV->cm->cm:=
 AI.rec (motive:=fun _=>Program->pS->Cx->HS->Tr AV->cm->cm)
 (fun _ P ih c h K z=>Pg P ih c h K z)
 (fun _ _ _ _ _ _ z=>z)
 (fun _ _ _ _ _ _ z=>z)
 (fun _ _ _ _ _ _ z=>z)
 (fun _ _ _ _ _ _ _ z=>z)
 (fun _ _ _ _ _ _ _ _ _ z=>z)
 (fun _ _ _ _ _ _ z=>z)
 (fun _ _ _ _ _ _ z=>z)
 (fun _ _ _ _ _ z=>z) x
def TQ(P:Program)(ih:pS)(c:Cx)(h:HS)(K:Tr AV)(td:List AI)(md:AM):cm:=AM.rec (motive:=fun _=>cm)
 (List.rec (motive:=fun _=>cm) (Pg P ih c h K (cY P ih c h K [] .run)) (fun x k _=>TH x P ih c h K k) td)
 (List.rec (motive:=fun _=>cm) (Pg P ih c h K (cY P ih c h K td .ret)) (fun x _ _=>Yk x P ih c h K (cY P ih c h K td .ret)) td) (fun l=>cY P ih c h K td (.GR l)) md
def Xr(P:Program)(f:Nat):pS:=Nat.rec (motive:=fun _=>pS) (fun c h K td md=>some [.stop c h K td md]) (fun _ ih c h K td md=>TQ P ih c h K td md) f
end
end Go.Proofs.YtjfkdglgecgjfaaGreat.R
