/- Part of the proof. -/
import Derived.Test.YtjfkdglgecgjfaaGreatZRB
import Derived.RangeFuncLeaves
namespace Go.Proofs.YtjfkdglgecgjfaaGreat.R
open Go.RowKit
section
variable {P:Program}{w0 w w':World}{cs0 cs:List Frame}{ρ ρ':gw}{h h':HS}{u us:List Nat}{fr:Frame}{s:mn}
theorem tF(H:WR w0 ρ h w){q:Nat}{L:Loc}{st:LoopState}{pe:Option Code}{fn n:Nat}{K:Tr AV}{ps:Array Tmp}{dV body:Code}{d:Nat}(hx:h.H.get q=some (.loop st pe fn n K ps dV body d))(hL:ρ q=some L):
 ∃tmps ld,mB ρ n K tmps/\ρ d=some ld/\w.heap[L.b]?=some (.loop {state:=st,pending:=pe,fn:=fn,tmps:=tmps,params:=ps,assign:=dV,body:=body,defers:=ld.b}):=H.obj _ _ _ hx hL
theorem vJ(H:WR w0 ρ h w){q:Nat}{L:Loc}{st st':LoopState}{pe pe':Option Code}{fn n:Nat}{K:Tr AV}{ps:Array Tmp}{dV body:Code}{d:Nat}(hx:h.H.get q=some (.loop st pe fn n K ps dV body d))(hL:ρ q=some L){tmps:Array Value}{ld:Loc}
 (t1:mB ρ n K tmps) (t2:ρ d=some ld) (t3:w.heap[L.b]?=some (.loop {state:=st,pending:=pe,fn:=fn,tmps:=tmps,params:=ps,assign:=dV,body:=body,defers:=ld.b})):
 WR w0 ρ (h.set q (.loop st' pe' fn n K ps dV body d)) {w with heap:=w.heap.setIfInBounds L.b (.loop {state:=st',pending:=pe',fn:=fn,tmps:=tmps,params:=ps,assign:=dV,body:=body,defers:=ld.b})}:=
 H.set hx hL (dz w L.b _) (fun b hb=>dD w L.b _ b hb) ⟨tmps,ld,t1,t2,hZ w _ t3⟩
theorem HU(hf:FR ρ s.fr fr u)(hs:IQ s.fr.todo fr.todo)(H:WR w0 ρ s.h w)(hcs:yX ρ s.cs cs us)(hF:eA ρ s.h.nx (u++us))(hst:step P (lone fr (cs++cs0) w)=.next (lone {fr with mode:=.returning} (cs++cs0) w)):
 eL P w0 cs0 (lone fr (cs++cs0) w) (.one {s with fr:={s.fr with mode:=.ret}}):=
 ⟨_,Steps.one hst,ρ,_,cs,w,u,us,rfl,H,⟨hf.fn,hf.kind,hf.rd,rfl,hf.ds,hf.body,.inr hs⟩,hcs,hF⟩
theorem jJ(hF:eA ρ h.nx (u++us)):eA ρ h.nx us:=⟨(List.nodup_append.1 hF.1).2.1,fun q hq=>hF.2 q (aW _ hq)⟩
theorem Ae{jump:Option Code}(H:WR w0 ρ s.h w)(hf:FR ρ s.fr fr u)(hs:IQ s.fr.todo fr.todo)(hcs:yX ρ s.cs cs us)(hF:eA ρ s.h.nx (u++us))(h1:fr.roundOf=none->jump=none\/jump=some .ret->step P (lone fr (cs++cs0) w)=.next (lone {fr with mode:=.returning} (cs++cs0) w))
 (h2:∀l c ccs v w',fr.roundOf=some l->fr.kind=.normal->cs++cs0=c::ccs->(Instr.endRound l jump).run P w=.ok v w'->step P (lone fr (cs++cs0) w)=.next (lone (c.finish v) ccs w')):eL P w0 cs0 (lone fr (cs++cs0) w) (hG s jump):=by
 unfold hG
 split
 . rename_i hrd
   have hro:fr.roundOf=none:=by have:=hf.rd;rw[hrd]at this;exact this
   split
   . exact HU hf hs H hcs hF (h1 hro (.inl rfl))
   . exact HU hf hs H hcs hF (h1 hro (.inr rfl))
   . trivial
 . rename_i q hrd
   refine bR fun y hy=>?_
   simp only[aa]at hy
   obtain⟨x,e1,hy⟩:=hy
   split at hy
   . rename_i st pe fn n K ps dV body d c ccs hkind hcc
     simp only[ab]at hy
     obtain⟨A',e2,rfl⟩:=hy
     have hro:=hf.rd
     rw[hrd]at hro
     obtain⟨L,hL,hro⟩:=hro
     obtain⟨tmps,ld,t1,t2,t3⟩:=tF H e1 hL
     rw[hcc]at hcs
     obtain⟨cf,cfs,u1,us1,rfl,rfl,c1,c2,c3⟩:=hcs.cons_inv
     have hrun:(Instr.endRound L.b jump).run P w=.ok (.bool jump.isNone) {w with heap:=w.heap.setIfInBounds L.b (.loop {state:=if jump.isNone then .ready else .done,pending:=jump,fn:=fn,tmps:=tmps,params:=ps,assign:=dV,body:=body,defers:=ld.b})}:=by
      have hget:(getObj L.b).run P w=.ok _ w:=ft t3 (fun _ _ _ h=>by cases h);have hset:∀ob,(setObj L.b ob).run P w=.ok () {w with heap:=w.heap.setIfInBounds L.b ob}:=fun ob=>iP t3 (fun _ _ _ h=>by cases h)
      simp only[Instr.endRound,Instr.getLoop,Sem.run_bind,hget,Result.andThen_ok,hset,Sem.run_pure]
     have hst:=h2 L.b cf (cfs++cs0) _ _ hro (by rw[hf.kind,hkind]) rfl hrun
     have hN:eU s.h (s.h.set q (.loop (if jump.isNone then .ready else .done) jump fn n K ps dV body d)) ρ ρ:=eU.refl
     exact⟨_,Steps.one hst,ρ,_,cfs,_,u1,us1,rfl,vJ H e1 hL t1 t2 t3,(dv (v:=.p (.bool jump.isNone)) c1 c2 rfl e2).1,c3,(jJ hF).ext hN⟩
   . cases hy
theorem gb{id:Nat}:∀{k k2:List AI} {k':List Item},cW ρ k=some k'->ql id k=some k2->∃k2',exitTo id k'=some k2'/\cW ρ k2=some k2'
 |[],_,_,_,e=>by cases e
 |x::k,k2,k',hk,e=>by
  obtain⟨y,l',rfl,h1,h2⟩:=bZ hk
  cases x with
  |lb id'=>
   simp only[cl,ae]at h1;subst h1
   simp only[ql]at e
   simp only[exitTo]
   have hb:(id' == id)=Nat.beq id' id:=by rw[Bool.eq_iff_iff];simp
   rw[hb]
   split at e
   . rename_i hq;cases e;exact⟨l',by rw[hq];rfl,h2⟩
   . rename_i hq;rw[hq];exact gb h2 e
  |code c=>simp only[cl,ae]at h1;subst h1;exact gb (k:=k) (k':=l') h2 e
  |lp c=>simp only[cl,ae]at h1;subst h1;exact gb (k:=k) (k':=l') h2 e
  |sc c=>simp only[cl,ae]at h1;subst h1;exact gb (k:=k) (k':=l') h2 e
  |ops o l=>simp only[cl,ae]at h1;subst h1;exact gb (k:=k) (k':=l') h2 e
  |mu a b c d=>cases h1
  |rf o=>simp only[cl,ab]at h1;obtain⟨L,_,rfl⟩:=h1;exact gb (k:=k) (k':=l') h2 e
  |er o=>simp only[cl,ab]at h1;obtain⟨L,_,rfl⟩:=h1;exact gb (k:=k) (k':=l') h2 e
  |br=>simp only[cl,ae]at h1;subst h1;exact gb (k:=k) (k':=l') h2 e
theorem ep{id:Nat}:∀{k:List AI} {k':List Item},cW ρ k=some k'->ql id k=none->exitTo id k'=none
 |[],_,hk,_=>by simp only[cW,ae]at hk;subst hk;rfl
 |x::k,k',hk,e=>by
  obtain⟨y,l',rfl,h1,h2⟩:=bZ hk
  cases x with
  |lb id'=>
   simp only[cl,ae]at h1;subst h1
   simp only[ql]at e
   simp only[exitTo]
   have hb:(id' == id)=Nat.beq id' id:=by rw[Bool.eq_iff_iff];simp
   rw[hb]
   split at e
   . cases e
   . rename_i hq;rw[hq];exact ep h2 e
  |code c=>simp only[cl,ae]at h1;subst h1;exact ep (k:=k) (k':=l') h2 e
  |lp c=>simp only[cl,ae]at h1;subst h1;exact ep (k:=k) (k':=l') h2 e
  |sc c=>simp only[cl,ae]at h1;subst h1;exact ep (k:=k) (k':=l') h2 e
  |ops o l=>simp only[cl,ae]at h1;subst h1;exact ep (k:=k) (k':=l') h2 e
  |mu a b c d=>cases h1
  |rf o=>simp only[cl,ab]at h1;obtain⟨L,_,rfl⟩:=h1;exact ep (k:=k) (k':=l') h2 e
  |er o=>simp only[cl,ab]at h1;obtain⟨L,_,rfl⟩:=h1;exact ep (k:=k) (k':=l') h2 e
  |br=>simp only[cl,ae]at h1;subst h1;exact ep (k:=k) (k':=l') h2 e
theorem gg{t:Nat}:∀{k k2:List AI} {k':List Item},cW ρ k=some k'->uJ t k=some k2->∃k2',gotoIn t k'=some k2'/\cW ρ k2=some k2'
 |[],_,_,_,e=>by cases e
 |x::k,k2,k',hk,e=>by
  obtain⟨y,l',rfl,h1,h2⟩:=bZ hk
  cases x with
  |sc body=>
   simp only[cl,ae]at h1;subst h1
   simp only[uJ]at e
   simp only[gotoIn]
   split at e
   . rename_i r hr;cases e
     exact⟨_,by rw[hr],b7 rfl (b7 rfl h2)⟩
   . rename_i hr;rw[hr];exact gg h2 e
  |code c=>simp only[cl,ae]at h1;subst h1;exact gg (k:=k) (k':=l') h2 e
  |lp c=>simp only[cl,ae]at h1;subst h1;exact gg (k:=k) (k':=l') h2 e
  |lb c=>simp only[cl,ae]at h1;subst h1;exact gg (k:=k) (k':=l') h2 e
  |ops o l=>simp only[cl,ae]at h1;subst h1;exact gg (k:=k) (k':=l') h2 e
  |mu a b c d=>cases h1
  |rf o=>simp only[cl,ab]at h1;obtain⟨L,_,rfl⟩:=h1;exact gg (k:=k) (k':=l') h2 e
  |er o=>simp only[cl,ab]at h1;obtain⟨L,_,rfl⟩:=h1;exact gg (k:=k) (k':=l') h2 e
  |br=>simp only[cl,ae]at h1;subst h1;exact gg (k:=k) (k':=l') h2 e
theorem ew{t:Nat}:∀{k:List AI} {k':List Item},cW ρ k=some k'->uJ t k=none->gotoIn t k'=none
 |[],_,hk,_=>by simp only[cW,ae]at hk;subst hk;rfl
 |x::k,k',hk,e=>by
  obtain⟨y,l',rfl,h1,h2⟩:=bZ hk
  cases x with
  |sc body=>
   simp only[cl,ae]at h1;subst h1
   simp only[uJ]at e
   simp only[gotoIn]
   split at e
   . cases e
   . rename_i hr;rw[hr];exact ew h2 e
  |code c=>simp only[cl,ae]at h1;subst h1;exact ew (k:=k) (k':=l') h2 e
  |lp c=>simp only[cl,ae]at h1;subst h1;exact ew (k:=k) (k':=l') h2 e
  |lb c=>simp only[cl,ae]at h1;subst h1;exact ew (k:=k) (k':=l') h2 e
  |ops o l=>simp only[cl,ae]at h1;subst h1;exact ew (k:=k) (k':=l') h2 e
  |mu a b c d=>cases h1
  |rf o=>simp only[cl,ab]at h1;obtain⟨L,_,rfl⟩:=h1;exact ew (k:=k) (k':=l') h2 e
  |er o=>simp only[cl,ab]at h1;obtain⟨L,_,rfl⟩:=h1;exact ew (k:=k) (k':=l') h2 e
  |br=>simp only[cl,ae]at h1;subst h1;exact ew (k:=k) (k':=l') h2 e
theorem xQ{n:Nat}{K:Tr AV}{x:Operand}{v:AV}{ds:List Deferred}(ht:mB ρ n K fr.tmps)(e:cY K x=some v):conv ρ v=some ((⟨fr.tmps,ds⟩:Act).eval x):=by
 cases x with
 |tmp t=>
  obtain⟨u,k1,k2⟩:=ht.at_ t v e
  rw[A7 k2];exact k1
 |const c=>simp only[cY,ae]at e;subst e;exact eD c
 |global g=>simp only[cY,ae]at e;subst e;rfl
 |func f=>simp only[cY,ae]at e;subst e;rfl
theorem Ji{c:Code}{k:List AI}{k':List Item}(H:WR w0 ρ s.h w)(hf:FR ρ s.fr fr u)(hs:IQ s.fr.todo fr.todo)(hcs:yX ρ s.cs cs us)(hF:eA ρ s.h.nx (u++us))(hm:fr.mode=.run)(hk:cW ρ k=some k')(ht:mB ρ s.fr.n s.fr.K fr.tmps)(htd:fr.todo=.code c::k'):
 eL P w0 cs0 (lone fr (cs++cs0) w) (gU P s c k):=by
 have hmr:=u4 hf hm
 have hself:fr.atR ⟨fr.tmps,fr.defers⟩ (.code c::k')=fr:=by rw[<- htd];exact la hm
 have go:∀{l:List AI} {l':List Item} {w':World},cW ρ l=some l'->WR w0 ρ s.h w'->step P (lone (fr.atR ⟨fr.tmps,fr.defers⟩ (.code c::k')) (cs++cs0) w)=.next (lone (fr.atR ⟨fr.tmps,fr.defers⟩ l') (cs++cs0) w')->eL P w0 cs0 (lone fr (cs++cs0) w) (.one {s with fr:={s.fr with todo:=l}}):=fun{l l' w'} hl Hw hst=>by
  rw[hself]at hst;exact⟨_,Steps.one hst,ρ,_,cs,w',u,us,rfl,Hw,⟨hf.fn,hf.kind,hf.rd,by have:=hf.mode;rw[hm]at this;exact this,hf.ds,(bQ (vt hl)).2 ⟨hl,ht⟩,.inl hmr⟩,hcs,hF⟩
 have leave:∀{jump:Option Code},(fr.roundOf=none->jump=none\/jump=some .ret->step P (lone (fr.atR ⟨fr.tmps,fr.defers⟩ (.code c::k')) (cs++cs0) w)=.next (lone {fr.atR ⟨fr.tmps,fr.defers⟩ (.code c::k')with mode:=.returning} (cs++cs0) w))->
  (∀l cc ccs v w',fr.roundOf=some l->fr.kind=.normal->(Instr.endRound l jump).run P w=.ok v w'->step P (lone (fr.atR ⟨fr.tmps,fr.defers⟩ (.code c::k')) (cc::ccs) w)=.next (lone (cc.finish v) ccs w'))->eL P w0 cs0 (lone fr (cs++cs0) w) (hG s jump):=fun{jump} a1 a2=>by
  refine Ae H hf hs hcs hF (fun b1 b2=>?_) (fun l cc ccs v w' b1 b2 b3 b4=>?_)
  . have:=a1 b1 b2;rw[hself]at this;exact this
  . have:=a2 l cc ccs v w' b1 b2 b4;rw[hself]at this;rw[b3];exact this
 cases c with
 |skip=>exact go hk H stepR_skip
 |label l=>exact go hk H stepR_label
 |ret=>exact leave (fun b1 _=>stepR_ret b1) (fun l cc ccs v w' b1 b2 b4=>stepR_round_ret b1 b2 b4)
 |seq a b=>exact go (b7 rfl (b7 rfl hk)) H stepR_seq
 |cond c a b=>
  simp only[gU]
  split
  . rename_i e
    have:=cC (xQ (ds:=fr.defers) ht e)
    exact go (b7 rfl hk) H (stepR_cond this)
  . rename_i e
    have:=cC (xQ (ds:=fr.defers) ht e)
    exact go (b7 rfl hk) H (stepR_cond this)
  . trivial
 |block id b=>exact go (b7 rfl (b7 rfl hk)) H stepR_block
 |loop b=>exact go (b7 rfl (b7 rfl hk)) H stepR_loop
 |scope b=>
  refine go (b7 rfl (b7 rfl hk)) H (step_lone_go ?_)
  simp[stepG,stepG.exec,Frame.atR]
 |exit id=>
  simp only[gU]
  split
  . rename_i k2 e
    obtain⟨k2',g1,g2⟩:=gb hk e
    exact go g2 H (stepR_exit g1)
  . rename_i e
    have g1:=ep hk e
    exact leave (fun _ b2=>by rcases b2 with b2|b2<;>cases b2) (fun l cc ccs v w' b1 b2 b4=>stepR_round_exit b1 b2 g1 b4)
 |goto t=>
  simp only[gU]
  split
  . rename_i k2 e
    obtain⟨k2',g1,g2⟩:=gg hk e
    exact go g2 H (stepR_goto g1)
  . rename_i e
    have g1:=ew hk e
    exact leave (fun _ b2=>by rcases b2 with b2|b2<;>cases b2) (fun l cc ccs v w' b1 b2 b4=>stepR_round_goto b1 b2 g1 b4)
 |region id ops dr=>
  cases dr with
  |false=>exact go (b7 rfl hk) H stepR_region
  |true=>
   simp only[gU]
   split
   . rename_i hb
     simp only[al]at hb
     have hst:=stepR_region_draw (P:=P) (b:=fr) (a:=⟨fr.tmps,fr.defers⟩) (k:=k') (cs:=cs++cs0) (w:=w) (ops:=ops) (id:=id)
     rw[hself]at hst
     simp only[Region.schedule,hb.1,Bool.true_or,if_true]at hst
     obtain⟨htidy,_⟩:=iW hb.2
     have hlin:=M0 (ops:=ops) ops.size (w.tape w.drawn (.order fr.fn id)) (Array.replicate ops.size false) (by simp) (by
      unfold D.left;exact Nat.le_trans List.countP_le_length (by simp))
     have hnl:=D.j9 ops.size
     refine⟨_,Steps.one hst,ρ,_,cs,w.drew,u,us,rfl,H.drew,⟨hf.fn,hf.kind,hf.rd,by have:=hf.mode;rw[hm]at this;exact this,hf.ds,⟨_,k',Array.replicate ops.size false,rfl,hk,?_⟩,.inl hmr⟩,hcs,hF⟩
     exact{
      mC:=hb.2
      NG:=(List.nodup_range).sublist List.filter_sublist
      size:=by simp
      IV:=hlin
      closed:=o9.start ops
      chain:=fun i o ho he=>by
       simp only[hnl i,not_false_eq_true,true_iff,rn,bc,List.mem_range,ho,he,and_true];exact(Array.getElem?_eq_some_iff.1 ho).1
      todo:=fun i hi=>by
       simp only[rn,bc,List.mem_range]at hi;have ho:ops[i]?=some ops[i]:=by simp[hi.1]
       rw[ho]at hi;exact⟨_,ho,hi.2⟩
      quiet:=fun i o ho he _=>⟨.no,by
       simp only[pF,List.mem_filterMap,List.mem_range];exact⟨i,(Array.getElem?_eq_some_iff.1 ho).1,by simp[ho,he]⟩⟩
      news:=fun i q hm _=>by
       simp only[pF,List.mem_filterMap,aa]at hm;obtain⟨j,_,o,_,hm⟩:=hm;split at hm<;>cases hm
      FM:=fun i _=>hnl i
      keys:=fun i fl hm=>by
       simp only[pF,List.mem_filterMap,aa]at hm;obtain⟨j,_,o,ho,hm⟩:=hm;split at hm
       . cases hm
       . rename_i he;cases hm;exact⟨o,ho,he⟩
      vU:=ht.size
      I8:=fun t x hx _=>ht.at_ t x hx
      Mh:=fun t x hx _=>ht.at_ t x hx}
   . trivial
 |rangeFunc g ps dV body=>
  simp only[gU]
  refine bR fun y hy=>?_
  simp only[aa]at hy
  obtain⟨⟨h1,d,ads⟩,e1,v,e2,hy⟩:=hy
  have hv:=xQ (ds:=fr.defers) ht e2
  split at hy
  . rename_i gf first caps
    split at hy
    . rename_i hen
      simp only[ab]at hy
      obtain⟨A',e3,rfl⟩:=hy
      have key:∃ρ1 w1 ld mark,eU s.h h1 ρ ρ1/\WR w0 ρ1 h1 w1/\ρ1 d=some ld/\dW ρ1 ads=some mark/\(Instr.enterLoop fr.fn fr.tmps ps dV body fr.roundOf).run P w=.ok (w1.heap.size,mark) (w1.alloc (.loop {state:=.ready,pending:=none,fn:=fr.fn,tmps:=fr.tmps,params:=ps,assign:=dV,body:=body,defers:=ld.b})):=by
       split at e1
       . rename_i hrd;have hro:fr.roundOf=none:=by have:=hf.rd;rw[hrd]at this;exact this
         cases e1;have W:=(H.add (.Mp false)).alloc (o:=s.h.nx) (n:=0) (ob:=.deferred (some [])) (w':=w.alloc (.deferred (some []))) (add_get _ _) (H.fresh _ (Nat.le_refl _)).1 (.inl rfl) (by simp only[eO];rw[iw,if_pos rfl]);refine⟨_,_,⟨w.heap.size,0,0⟩,[{target:=.collected w.heap.size,args:= #[]}],eU.put (H.fresh _ (Nat.le_refl _)).1,W,fN,by simp only[dW,mP,fN,ak,ah],?_⟩;simp[Instr.enterLoop,hro]
       . rename_i q hrd;have hro:=hf.rd;rw[hrd]at hro;obtain⟨L,hL,hro⟩:=hro;simp only[aa]at e1;obtain⟨x,g1,e1⟩:=e1;split at e1
         . cases e1;obtain⟨tmps,ld,t1,t2,t3⟩:=tF H g1 hL;have hget:(getObj L.b).run P w=.ok _ w:=ft t3 (fun _ _ _ h=>by cases h);refine⟨ρ,w,ld,[],eU.refl,H,t2,rfl,?_⟩;simp[Instr.enterLoop,hro,Instr.getLoop,hget]
         . cases e1
      obtain⟨ρ1,w1,ld,mark,hN,H1,hld,hmark,hrun⟩:=key
      have hn1:ρ1 h1.nx=none:=(H1.fresh _ (Nat.le_refl _)).1
      have hne:d≠h1.nx:=fun e=>by rw[e,hn1]at hld;cases hld
      have W2:=(H1.add (.loop .ready none s.fr.fn s.fr.n s.fr.K ps dV body d)).alloc (o:=h1.nx) (n:=0) (ob:=.loop {state:=.ready,pending:=none,fn:=fr.fn,tmps:=fr.tmps,params:=ps,assign:=dV,body:=body,defers:=ld.b}) (w':=w1.alloc (.loop {state:=.ready,pending:=none,fn:=fr.fn,tmps:=fr.tmps,params:=ps,assign:=dV,body:=body,defers:=ld.b})) (add_get _ _) hn1 (.inl rfl)
       ⟨fr.tmps,ld,(ht.mono hN.ext).mono (gl hn1),by rw[mf hne];exact hld,by rw[iw,if_pos rfl,hf.fn]⟩
      have hN2:eU h1 (h1.add (.loop .ready none s.fr.fn s.fr.n s.fr.K ps dV body d)) ρ1 (put ρ1 h1.nx ⟨w1.heap.size,0,0⟩):=eU.put hn1
      have hE:=hN.ext.trans hN2.ext
      have hv':=dC hE _ _ hv
      simp only[conv,aa,ab]at hv'
      obtain⟨aS,q1,cs1,q2,q3⟩:=hv'
      have hyl:conv (put ρ1 h1.nx ⟨w1.heap.size,0,0⟩) (.yl h1.nx)=some (.func (.yield w1.heap.size) #[] #[]):=by simp only[conv,fN,ak]
      have hargs:bD (put ρ1 h1.nx ⟨w1.heap.size,0,0⟩) (first++[.yl h1.nx]++caps)=some (aS++[.func (.yield w1.heap.size) #[] #[]]++cs1):=bV (bV q1 (iY hyl rfl)) q2
      have hst:=stepR_rangeFunc (P:=P) (b:=fr) (a:=⟨fr.tmps,fr.defers⟩) (k:=k') (cs:=cs++cs0) (w:=w) (g:=g) (ps:=ps) (assign:=dV) (body:=body) (l:=w1.heap.size) (mark:=mark) (d:={target:=.fn (.func gf) cs1.toArray,args:=aS.toArray++ #[.func (.yield w1.heap.size) #[] #[]]}) (f:=gf) (args:=(aS++[Value.func (.yield w1.heap.size) #[] #[]]++cs1).toArray) hrun
       (by
        have hone:(#[Operand.const (Value.func (.yield w1.heap.size) #[] #[])]).map (⟨fr.tmps,fr.defers⟩:Act).eval= #[Value.func (.yield w1.heap.size) #[] #[]]:=by simp[Act.eval]
        simp only[resolve,Deferred.ofValue,<- q3,Sem.run_pure,hone];exact rfl)
       (by
        have:=lz hen ((aS++[Value.func (.yield w1.heap.size) #[] #[]]++cs1).toArray) (w1.alloc (.loop {state:=.ready,pending:=none,fn:=fr.fn,tmps:=fr.tmps,params:=ps,assign:=dV,body:=body,defers:=ld.b}));simp only[invoke];rw[<- this];congr 2;simp)
      rw[hself]at hst
      refine⟨_,Steps.one hst,put ρ1 h1.nx ⟨w1.heap.size,0,0⟩,_,_::cs,_,[],u++us,rfl,W2,qi e3 hargs,.cons ⟨hf.fn,hf.kind,hf.rd.mono hE,?_,?_,(bQ (by trivial)).2 ⟨b7 (by simp only[cl,fN,ak]) (eZ hE hk),ht.mono hE⟩,.inl hmr⟩ trivial (hcs.mono hE),(hF.ext hN).ext hN2⟩
      . have:=uo hE hf.mode;rw[hm]at this;exact this
      . have happ:∀{x y:List AD} {x' y':List Deferred},dW (put ρ1 h1.nx ⟨w1.heap.size,0,0⟩) x=some x'->dW (put ρ1 h1.nx ⟨w1.heap.size,0,0⟩) y=some y'->dW (put ρ1 h1.nx ⟨w1.heap.size,0,0⟩) (x++y)=some (x'++y'):=by
         intro x
         induction x with
         |nil=>intro y x' y' h1 h2;simp only[dW,ae]at h1;subst h1;exact h2
         |cons p x ih=>
          intro y x' y' h1 h2
          simp only[dW,aa,ab]at h1
          obtain⟨q',g1,x2,g2,rfl⟩:=h1
          simp only[aR,dW,g1,ih g2 h2,ah,ak]
        exact happ (jF hN2.ext hmark) (jF hE hf.ds)
    . cases hy
  . cases hy
 |refuse why=>trivial
end
end Go.Proofs.YtjfkdglgecgjfaaGreat.R
namespace Go.Proofs.YtjfkdglgecgjfaaGreat.R
open Go.RowKit
section
variable {P:Program}{w0 w w':World}{cs0 cs:List Frame}{ρ ρ':gw}{h h':HS}{u us:List Nat}{fr:Frame}{s:mn}
theorem JQ(hX:ez P w0)(H:WR w0 ρ s.h w)(hf:FR ρ s.fr fr u)(hcs:yX ρ s.cs cs us)(hF:eA ρ s.h.nx (u++us))(hm:fr.mode=.run):eL P w0 cs0 (lone fr (cs++cs0) w) (jL P s):=by
 have hmr:=u4 hf hm;unfold jL;have hb:=hf.body;have go:∀{k:List AI} {k' todo:List Item} {h':HS} {w':World},fr.todo=todo->mB ρ s.fr.n s.fr.K fr.tmps->cW ρ k=some k'->WR w0 ρ h' w'->s.h.nx=h'.nx->step P (lone (fr.atR ⟨fr.tmps,fr.defers⟩ todo) (cs++cs0) w)=.next (lone (fr.atR ⟨fr.tmps,fr.defers⟩ k') (cs++cs0) w')->
  eL P w0 cs0 (lone fr (cs++cs0) w) (.one {s with h:=h',fr:={s.fr with todo:=k}}):=fun{k k' todo h' w'} htd ht hk Hw hnx hst=>by
  rw[<- htd,la hm]at hst
  refine⟨_,Steps.one hst,ρ,_,cs,w',u,us,rfl,Hw,⟨hf.fn,hf.kind,hf.rd,by have:=hf.mode;rw[hm]at this;exact this,hf.ds,(bQ (vt hk)).2 ⟨hk,ht⟩,.inl hmr⟩,hcs,?_⟩
  exact hF.ext (h:=s.h) (h':=h') ⟨Ext.refl ρ,fun _ _=>rfl,Nat.le_of_eq hnx⟩
 split
 . rename_i hA;rw[hA,bQ (by trivial)]at hb;obtain⟨hb1,hb2⟩:=hb;simp only[cW,ae]at hb1;refine Ae H hf (by rw[hA];trivial) hcs hF (fun b1 _=>?_) (fun l cc ccs v w' b1 b2 b3 b4=>?_)
   . have:=stepR_end (P:=P) (b:=fr) (a:=⟨fr.tmps,fr.defers⟩) (cs:=cs++cs0) (w:=w) b1;rw[hb1,la hm]at this;exact this
   . have:=stepR_round_end (P:=P) (b:=fr) (a:=⟨fr.tmps,fr.defers⟩) (cs:=ccs) (w:=w) (c:=cc) b1 b2 b4;rw[hb1,la hm]at this;rw[b3];exact this
 . rename_i c k hA;rw[hA,bQ (by trivial)]at hb;obtain⟨hb1,hb2⟩:=hb;obtain⟨y,k',hy,h1,h2⟩:=bZ hb1;cases h1;exact Ji H hf (by rw[hA];trivial) hcs hF hm h2 hb2 hy
 . rename_i id k hA;rw[hA,bQ (by trivial)]at hb;obtain⟨hb1,hb2⟩:=hb;obtain⟨y,k',hy,h1,h2⟩:=bZ hb1;cases h1;exact go hy hb2 h2 H rfl stepR_inBlock
 . rename_i c k hA;rw[hA,bQ (by trivial)]at hb;obtain⟨hb1,hb2⟩:=hb;obtain⟨y,k',hy,h1,h2⟩:=bZ hb1;cases h1;refine go hy hb2 h2 H rfl (step_lone_go ?_);simp[stepG,stepG.exec,Frame.atR]
 . rename_i c k hA;rw[hA,bQ (by trivial)]at hb;obtain⟨hb1,hb2⟩:=hb;obtain⟨y,k',hy,h1,h2⟩:=bZ hb1;cases h1;exact go hy hb2 (b7 rfl (b7 rfl h2)) H rfl stepR_inLoop
 . rename_i ops k hA;rw[hA,bQ (by trivial)]at hb;obtain⟨hb1,hb2⟩:=hb;obtain⟨y,k',hy,h1,h2⟩:=bZ hb1;cases h1;exact go hy hb2 h2 H rfl stepR_region_end
 . rename_i ops i l k hA;rw[hA,bQ (by trivial)]at hb;obtain⟨hb1,hb2⟩:=hb;obtain⟨y,k',hy,h1,h2⟩:=bZ hb1;cases h1;exact w8 hX H hf (by rw[hA];trivial) hcs hF hm hy (fun o _ x v _ hv=>xQ hb2 hv) (fun o g _ hg=>uK hg fun t x _ hx=>hb2.at_ t x hx)
 . rename_i ops K0 todo pend k hA;exact zC hX H hf hcs hF hA hm
 . trivial
 . rename_i q k hA;rw[hA,bQ (by trivial)]at hb;obtain⟨hb1,hb2⟩:=hb;obtain⟨y,k',hy,h1,h2⟩:=bZ hb1;simp only[cl,ab]at h1;obtain⟨L,hL,rfl⟩:=h1;refine bR fun y hy2=>?_
   simp only[aa]at hy2;obtain⟨x,e1,hy2⟩:=hy2;split at hy2
   . rename_i st pe fn n K ps dV body d;obtain⟨tmps,ld,t1,t2,t3⟩:=tF H e1 hL;have hnb:st≠ .busy:=fun e=>by rw[e]at hy2;cases hy2
     have hy3:y=.one {s with h:=s.h.set q (.loop .exhausted pe fn n K ps dV body d),fr:={s.fr with todo:=(pe.map AI.code).toList++k}}:=by
      cases st<;>first|exact absurd rfl hnb|exact(ar hy2).symm
     subst hy3;have hrun:(Instr.endLoop L.b).run P w=.ok pe {w with heap:=w.heap.setIfInBounds L.b (.loop {state:=.exhausted,pending:=pe,fn:=fn,tmps:=tmps,params:=ps,assign:=dV,body:=body,defers:=ld.b})}:=by
      have hget:(getObj L.b).run P w=.ok _ w:=ft t3 (fun _ _ _ h=>by cases h);have hset:∀ob,(setObj L.b ob).run P w=.ok () {w with heap:=w.heap.setIfInBounds L.b ob}:=fun ob=>iP t3 (fun _ _ _ h=>by cases h)
      have hb:(st == LoopState.busy)=false:=by cases st<;>first|rfl|exact absurd rfl hnb
      simp only[Instr.endLoop,Instr.getLoop,Sem.run_bind,hget,Result.andThen_ok,Sem.run_pure,hb,aO,if_false,hset]
     exact go hy hb2 (k:=(pe.map AI.code).toList++k) (k':=(pe.map Item.code).toList++k') (by cases pe with|none=>exact h2|some c=>exact b7 rfl h2) (vJ H e1 hL t1 t2 t3) rfl (stepR_endRangeFunc hrun)
   . cases hy2
 . rename_i k hA;rw[hA,bQ (by trivial)]at hb;obtain⟨hb1,hb2⟩:=hb;obtain⟨y,k',hy,h1,h2⟩:=bZ hb1;cases h1;refine bR fun y hy2=>?_
   simp only[aa]at hy2;obtain⟨q,hrd,x,e1,hy2⟩:=hy2;split at hy2
   . rename_i pe fn n K ps dV body d;cases hy2;have hro:=hf.rd;rw[hrd]at hro;obtain⟨L,hL,hro⟩:=hro;obtain⟨tmps,ld,t1,t2,t3⟩:=tF H e1 hL;have hrun:(Instr.beginRound L.b).run P w=.ok () {w with heap:=w.heap.setIfInBounds L.b (.loop {state:=.busy,pending:=pe,fn:=fn,tmps:=tmps,params:=ps,assign:=dV,body:=body,defers:=ld.b})}:=by
      have hget:(getObj L.b).run P w=.ok _ w:=ft t3 (fun _ _ _ h=>by cases h);have hset:∀ob,(setObj L.b ob).run P w=.ok () {w with heap:=w.heap.setIfInBounds L.b ob}:=fun ob=>iP t3 (fun _ _ _ h=>by cases h)
      simp only[Instr.beginRound,Instr.getLoop,Sem.run_bind,hget,Result.andThen_ok,Sem.run_pure,hset]
     exact go hy hb2 h2 (vJ H e1 hL t1 t2 t3) rfl (stepR_beginRound hro hrun)
   . cases hy2
theorem G8(hf:FR ρ s.fr fr u){t:Nat}(hk:∀ops K0 td pend k,s.fr.todo=.mu ops K0 td pend::k->D.writer ops t=none){x:AV}(hx:s.fr.K.get t=some x):∃v,conv ρ x=some v/\fr.tmps[t]?=some v:=by
 have hb:=hf.body
 cases hA:s.fr.todo with
 |nil=>rw[hA]at hb;exact hb.2.at_ t x hx
 |cons y k=>
  rw[hA]at hb
  cases y with
  |mu ops K0 td pend=>
   obtain⟨rest,k',l,_,_,hD⟩:=hb
   exact hD.I8 t x hx fun j hj=>by rw[hk ops K0 td pend k hA]at hj;cases hj
  |_=>exact hb.2.at_ t x hx
theorem yI{tmps:Array Value}(f:ResultVar->Sem Value)(hf1:∀t,f (.tmp t)=pure (tmps.getD t undef))(hf2:∀p t,f (.cell p t)=(do loadVar t (<- asAddr (tmps.getD p undef))))(H:WR w0 ρ h w){K:Tr AV}:∀{rs:List ResultVar} {vs:List AV},tk P h K rs=some vs->
 (∀r∈rs,∀t,(r=.tmp t\/∃T,r=.cell t T)->∀x,K.get t=some x->∃v,conv ρ x=some v/\tmps[t]?=some v)->∃us,bD ρ vs=some us/\(rs.mapM f).run P w=.ok us w
 |[],vs,e,_=>by
  simp only[tk,ae]at e;subst e;exact⟨[],rfl,by simp[Sem.run_pure]⟩
 |.tmp t::rs,vs,e,hk=>by
  simp only[tk,aa,ab]at e;obtain⟨x,e1,vs',e2,rfl⟩:=e;obtain⟨v,k1,k2⟩:=hk _ (aq ..) t (.inl rfl) x e1;obtain⟨us,g1,g2⟩:=yI f hf1 hf2 H e2 fun r hr=>hk r (au _ hr)
  refine⟨v::us,iY k1 g1,?_⟩;have:tmps.getD t undef=v:=by simp[Array.getD_eq_getD_getElem?,k2]
  simp only[List.mapM_cons,Sem.run_bind,hf1,this,Sem.run_pure,Result.andThen_ok,g2]
 |.cell p t::rs,vs,e,hk=>by
  simp only[tk,aa,ab]at e;obtain⟨x,e1,v,e2,vs',e3,rfl⟩:=e;obtain⟨pv,k1,k2⟩:=hk _ (aq ..) p (.inr ⟨t,rfl⟩) x e1;obtain⟨us,g1,g2⟩:=yI f hf1 hf2 H e3 fun r hr=>hk r (au _ hr)
  obtain⟨ad,v',q1,q2,q3⟩:=Ah (P:=P) H k1 e2;refine⟨v'::us,iY q2 g1,?_⟩;have:tmps.getD p undef=.pointer (some ad):=by simp[Array.getD_eq_getD_getElem?,k2,q1]
  simp only[List.mapM_cons,Sem.run_bind,hf2,this,pJ,Result.andThen_ok,q3,Sem.run_pure,g2]
theorem pH{fn:Func}(H:WR w0 ρ s.h w)(hf:FR ρ s.fr fr u){vs:List AV}(e:tk P s.h s.fr.K fn.results.toList=some vs)(hb:vy s.fr.todo fn.results.toList=true):∃v,(results fn fr.tmps).run P w=.ok v w/\conv ρ (Cr vs)=some v:=by
 obtain⟨us,g1,g2⟩:=yI (P:=P) (tmps:=fr.tmps) (fun
  |.tmp t=>pure (fr.tmps.getD t undef)
  |.cell a t=>do loadVar t (<- asAddr (fr.tmps.getD a undef))) (fun _=>rfl) (fun _ _=>rfl) H e (fun r hr t hrt x hx=>by
   refine G8 hf (fun ops K0 td pend k hA=>?_) hx;rw[hA]at hb;simp only[vy]at hb;have:=aF.1 hb r hr;rcases hrt with rfl|⟨T,rfl⟩
   . simpa using this
   . simpa using this)
 have hm:(fn.results.mapM fun
  |.tmp t=>pure (fr.tmps.getD t undef)
  |.cell a t=>do loadVar t (<- asAddr (fr.tmps.getD a undef)):Sem (Array Value)).run P w=.ok us.toArray w:=by
  rw[Array.mapM_eq_mapM_toList]
  rw[Sem.run_map,g2]
  rfl
 refine⟨if h:us.toArray.size=1 then us.toArray[0]else .tuple us.toArray,(by unfold results;rw[Sem.run_bind];exact congrArg (fun q=>Result.andThen q fun vs w'=>(pure (if h:vs.size=1 then vs[0]else .tuple vs):Sem Value).run P w') hm),?_⟩;have hl:=cX g1
 match vs,us,g1,hl with
 |[],[],_,_=>rfl
 |[x],[v],g1,_=>
  obtain⟨v',_,h1,h2,_⟩:=b9 g1
  cases h1
  simpa[Cr]using h2
 |x::y::vs,v::v2::us,g1,_=>
  simp only[Cr,conv,g1,ak]
  simp
end
end Go.Proofs.YtjfkdglgecgjfaaGreat.R
namespace Go.Proofs.YtjfkdglgecgjfaaGreat.R
open Go.RowKit
section
variable {P:Program}{w0 w w':World}{cs0 cs:List Frame}{ρ ρ':gw}{h h':HS}{u us:List Nat}{fr:Frame}{s:mn}
theorem sO{x:AD}{l:List AD}{ys:List Deferred}(h:dW ρ (x::l)=some ys):∃y l',ys=y::l'/\mP ρ x=some y/\dW ρ l=some l':=by
 simp only[dW,aa,ab]at h;obtain⟨y,h1,l',h2,h3⟩:=h;exact⟨y,l',h3.symm,h1,h2⟩
theorem Fy{m:AM}{m':FrameMode}(h:dR ρ m=some m'):dR ρ (yP m)=some (settle m'):=by
 cases m with
 |run=>simp only[dR,ae]at h;subst h;rfl
 |ret=>simp only[dR,ae]at h;subst h;rfl
 |Bi l=>
  have h0:=h
  simp only[dR,ab]at h
  obtain⟨l',h1,rfl⟩:=h
  cases l with
  |nil=>simp only[eY,ae]at h1;subst h1;exact h0
  |cons p l=>
   obtain⟨v,b⟩:=p
   simp only[eY,aa,ab]at h1
   obtain⟨v',g1,l2,g2,rfl⟩:=h1
   cases b with
   |false=>exact h0
   |true=>
    have hd:∀{l:List (AV×Bool)} {l2:List PanicEntry},eY ρ l=some l2->l2.dropWhile (!·.goexit)=[]:=by
     intro l
     induction l with
     |nil=>intro l2 e;simp only[eY,ae]at e;subst e;rfl
     |cons p l ih=>
      intro l2 e
      obtain⟨q,c⟩:=p
      simp only[eY,aa,ab]at e
      obtain⟨q',_,l3,g,rfl⟩:=e
      simp only[List.dropWhile_cons,Bool.not_false,if_true]
      exact ih g
    simp only[yP,dR,settle,hd g2]
theorem FD(H:WR w0 ρ s.h w)(hf:FR ρ s.fr fr u)(hcs:yX ρ s.cs cs us)(hF:eA ρ s.h.nx (u++us))(hm:s.fr.mode≠ .run):eL P w0 cs0 (lone fr (cs++cs0) w) (oE P s):=by
 have hrun:fr.mode≠ .run:=fun e=>by
  have:=hf.mode;rw[e]at this
  cases hA:s.fr.mode with
  |run=>exact hm hA
  |ret=>rw[hA]at this;cases this
  |Bi l=>rw[hA]at this;simp only[dR,ab]at this;obtain⟨_,_,h2⟩:=this;cases h2
 unfold oE;split
 . rename_i q ds hA;have hds:=hf.ds;rw[hA]at hds;obtain⟨d,ds',hdf,h1,h2⟩:=sO hds;simp only[mP,ab]at h1;obtain⟨L,hL,rfl⟩:=h1;refine bR fun y hy=>?_
   simp only[aa]at hy;obtain⟨x,e1,hy⟩:=hy;split at hy
   . cases hy;have hob:w.heap[L.b]?=some (.deferred (some [])):=H.obj _ _ _ e1 hL;have hget:(getObj L.b).run P w=.ok _ w:=ft hob (fun _ _ _ h=>by cases h);have hset:∀ob,(setObj L.b ob).run P w=.ok () {w with heap:=w.heap.setIfInBounds L.b ob}:=fun ob=>iP hob (fun _ _ _ h=>by cases h)
     have hk:(Instr.takeDeferred L.b).run P w=.ok [] {w with heap:=w.heap.setIfInBounds L.b (.deferred none)}:=by
      simp only[Instr.takeDeferred,Sem.run_bind,hget,Result.andThen_ok,hset,Sem.run_pure]
     have hst:=step_collected (P:=P) (cs:=cs++cs0) hrun hdf rfl hk;refine⟨_,Steps.one hst,ρ,_,cs,_,u,us,rfl,H.set e1 hL (dz w L.b (.deferred none)) (fun b hb=>dD w L.b _ b hb) (by exact hZ w _ hob),⟨hf.fn,hf.kind,hf.rd,hf.mode,?_,hf.body,hf.Pg⟩,hcs,hF⟩;exact h2
   . cases hy
 . rename_i f cap args ds hA;have hds:=hf.ds;rw[hA]at hds;obtain⟨d,ds',hdf,h1,h2⟩:=sO hds;simp only[mP,aa,ab]at h1;obtain⟨cap',q1,args',q2,rfl⟩:=h1;split
   . rename_i g;split
     . rename_i hen;refine bR fun y hy=>?_
       simp only[ab]at hy;obtain⟨A',e1,rfl⟩:=hy;have hi:(invoke (.fn (.func g) cap'.toArray) args'.toArray).run P w=.ok (.enter g (args'++cap').toArray) w:=by
        have:=lz hen ((args'++cap').toArray) w;simp only[invoke];rw[<- this];congr 2;simp
       have hst:=step_defer (P:=P) (cs:=cs++cs0) hrun hdf rfl hi;exact⟨_,Steps.one hst,ρ,_,{fr with defers:=ds'}::cs,w,[],u++us,rfl,H,qi e1 (bV q2 q1),.cons ⟨hf.fn,hf.kind,hf.rd,hf.mode,h2,hf.body,hf.Pg⟩ (hf.Pg.resolve_left hm) hcs,hF⟩
     . trivial
   . trivial
 . rename_i hA;have hds:=hf.ds;rw[hA]at hds;simp only[dW,ae]at hds;split
   . trivial
   . rename_i l hmode;have hfm:=hf.mode;rw[hmode]at hfm;simp only[dR,ab]at hfm;obtain⟨l',g1,g2⟩:=hfm;split
     . rename_i c ccs fn hcc hfn;rw[hcc]at hcs;obtain⟨cf,cfs,u1,us1,rfl,rfl,c1,c2,c3⟩:=hcs.cons_inv;have hlv:fr.leaving P w (.panicked l'):=⟨g2.symm,hds.symm,fn,by rw[hf.fn];exact hfn⟩;have hst:=step_leave_panicked (c:=cf) (cs:=cfs++cs0) hlv;exact⟨_,Steps.one hst,ρ,_,cfs,w,u1,us1,rfl,H,AJ c1 c2 g1,c3,jJ hF⟩
     . trivial
   . rename_i hmode;have hfm:=hf.mode;rw[hmode]at hfm;simp only[dR,ae]at hfm;split
     . trivial
     . rename_i c ccs hcc;refine bR fun y hy=>?_
       simp only[aa]at hy;obtain⟨fn,hfn,vs,e1,hy⟩:=hy;rw[hcc]at hcs;obtain⟨cf,cfs,u1,us1,rfl,rfl,c1,c2,c3⟩:=hcs.cons_inv;split at hy
       . rename_i hb hkind;simp only[ab]at hy;obtain⟨A',e2,rfl⟩:=hy;obtain⟨v,k1,k2⟩:=pH (P:=P) H hf e1 hb;have hlv:fr.leaving P w (.returned v):=⟨hfm.symm,hds.symm,by rw[hf.kind,hkind],fn,by rw[hf.fn];exact hfn,k1⟩;have hst:=step_leave_returned (c:=cf) (cs:=cfs++cs0) hlv;exact⟨_,Steps.one hst,ρ,_,cfs,w,u1,us1,rfl,H,(dv c1 c2 k2 e2).1,c3,jJ hF⟩
       . rename_i hb hkind;cases hy;obtain⟨v,k1,k2⟩:=pH (P:=P) H hf e1 hb;have hgo:fr.going P w (.returned v):=⟨hfm.symm,hds.symm,fn,by rw[hf.fn];exact hfn,k1⟩;have hst:=step_going_returned (c:=cf) (cs:=cfs++cs0) (by rw[hf.kind,hkind]) hgo;exact⟨_,Steps.one hst,ρ,_,cfs,w,u1,us1,rfl,H,⟨c1.fn,c1.kind,c1.rd,Fy c1.mode,c1.ds,c1.body,.inr c2⟩,c3,jJ hF⟩
       . cases hy
theorem A5(hX:ez P w0){m:Machine}(hS:yY w0 cs0 s m):eL P w0 cs0 m (ef P s):=by
 obtain⟨ρ,fr,cs,w,u,us,rfl,H,hf,hcs,hF⟩:=hS;unfold ef;split
 . rename_i hmode;have:=hf.mode;rw[hmode]at this;simp only[dR,ae]at this;exact JQ hX H hf hcs hF this.symm
 . rename_i hmode;exact FD H hf hcs hF fun e=>hmode e
end
end Go.Proofs.YtjfkdglgecgjfaaGreat.R
namespace Go.Proofs.YtjfkdglgecgjfaaGreat.R
open Go.RowKit
noncomputable section
structure Cx where
 e:Nat
 cs:List AF
 fn:FuncId
 n:Nat
 ds:List AD
 kind:CallKind
 rd:Option Nat
def Cx.fr(c:Cx)(K:Tr AV)(td:List AI)(md:AM):AF:=⟨c.fn,c.n,K,td,c.ds,md,c.kind,c.rd⟩
def Cx.st(c:Cx)(h:HS)(K:Tr AV)(td:List AI)(md:AM):mn:=⟨h,c.fr K td md,c.cs⟩
inductive Rt where
 |ret (h:HS) (v:AV)
 |stop (c:Cx) (h:HS) (K:Tr AV) (td:List AI) (md:AM)
abbrev bN:=Option (List Rt)
abbrev mF:=Cx->HS->Tr AV->List AI->AM->bN
def gv(a b:Bool):Bool:=Bool.rec (motive:=fun _=>Bool) false b a
def GZ(n d:Nat):List (List Nat):=match gv (Nat.beq n 409) (Nat.beq d 8)with|true=>[[0,1,98,99,100,101,281,282,283,284,285,286,339,341,375,377,378,379,383,384,385,389,390,391,392,393,394,395]]|false=>match gv (Nat.beq n 440) (Nat.beq d 9)with|true=>[[0,1,98,99,100,101,281,282,283,284,285,286,339,341,375,377,378,379,383,384,385,389,390,391,392,393,394,395,409,410,411,412,418,420,425,427,428,430,431,439]]|false=>match gv (Nat.beq n 454) (Nat.beq d 9)with|true=>[[0,1,98,99,100,101,281,282,283,284,285,286,339,341,375,377,378,379,383,384,385,389,390,391,392,393,394,395,409,410,411,412,418,420,425,427,439,440,441,442,444,445,453]]|false=>match gv (Nat.beq n 456) (Nat.beq d 7)with|true=>[[0,1,98,99,100,101,281,282,283,284,285,286,339,341,375,377,378,379,383,384,385,389,390,391,392,393,394,455]]|false=>match gv (Nat.beq n 486) (Nat.beq d 8)with|true=>[[0,1,98,99,100,101,281,282,283,284,285,286,339,341,375,377,378,379,383,384,385,389,390,391,392,457,458,459,460,472,479,480,481,482]]|false=>[]
def h9{α β:Type}(x:Option α)(f:α->Option β):Option β:=Option.rec (motive:=fun _=>Option β) none f x
def rl{α β γ:Type}(f:α->β->Option γ)(x:Option α)(y:Option β):Option γ:=Option.rec (motive:=fun _=>Option γ) none (fun u=>Option.rec (motive:=fun _=>Option γ) none (f u) y) x
def nV(x:Operand):Tr AV->Option AV:=Operand.rec (motive:=fun _=>Tr AV->Option AV)
 (fun t K=>lK (sW t) K) (fun v _=>some (wq v)) (fun g _=>some (.p (.pointer (some ⟨g,0,none⟩)))) (fun f _=>some (.fn (.func f) [] [])) x
def N1(k:IntKind)(lim n:Nat):Option AV:=Bool.rec (motive:=fun _=>Option AV) none (qy k n) (Nat.ble (Nat.succ n) lim)
def N2(k:IntKind)(m n:Nat):Option AV:=qy k (Nat.mod n m)
def my(k:IntKind):Nat->Option AV:=IntKind.rec (motive:=fun _=>Nat->Option AV)
 (N1 .i8 128) (N1 .i16 32768) (N1 .i32 2147483648) (N1 .i64 9223372036854775808) (N2 .u8 256) (N2 .u16 65536) (N2 .u32 4294967296) (N2 .u64 18446744073709551616) k
def Bt(k:IntKind):Nat:=IntKind.rec (motive:=fun _=>Nat) 8 16 32 64 8 16 32 64 k
def ka(k:IntKind):Nat:=IntKind.rec (motive:=fun _=>Nat) 0 1 2 3 4 5 6 7 k
def uc(b:Bool):Option AV:=Bool.rec (motive:=fun _=>Option AV) (some (.p (.bool false))) (some (.p (.bool true))) b
def Ev(b:Bool):Option AV:=Bool.rec (motive:=fun _=>Option AV) (some (.p (.bool true))) (some (.p (.bool false))) b
def u5(op:BinOp):IntKind->Nat->Nat->Option AV:=BinOp.rec (motive:=fun _=>IntKind->Nat->Nat->Option AV)
 (fun k a b=>my k (Nat.add a b))
 (fun k a b=>Bool.rec (motive:=fun _=>Option AV) none (my k (Nat.sub a b)) (Nat.ble b a))
 (fun k a b=>my k (Nat.mul a b))
 (fun k a b=>Nat.rec (motive:=fun _=>Option AV) none (fun _ _=>my k (Nat.div a b)) b)
 (fun k a b=>Nat.rec (motive:=fun _=>Option AV) none (fun _ _=>qy k (Nat.mod a b)) b)
 (fun k a b=>my k (Nat.land a b))
 (fun k a b=>my k (Nat.lor a b))
 (fun k a b=>my k (Nat.xor a b))
 (fun k a b=>Bool.rec (motive:=fun _=>Option AV) none (my k (Nat.mul a (Nat.pow 2 b))) (Nat.ble b (Bt k)))
 (fun k a b=>Bool.rec (motive:=fun _=>Option AV) none (qy k (Nat.div a (Nat.pow 2 b))) (Nat.ble b (Bt k)))
 (fun _ _ _=>none)
 (fun _ a b=>uc (Nat.beq a b))
 (fun _ a b=>Ev (Nat.beq a b))
 (fun _ a b=>uc (Nat.ble (Nat.succ a) b))
 (fun _ a b=>uc (Nat.ble a b))
 (fun _ a b=>uc (Nat.ble (Nat.succ b) a))
 (fun _ a b=>uc (Nat.ble b a)) op
def Pd(op:BinOp):Bool:=BinOp.rec (motive:=fun _=>Bool) false false false false false false false false true true false false false false false false false op
def Oc(op:BinOp)(k:IntKind)(a:Nat)(l:IntKind)(b:Nat):Option AV:=Bool.rec (motive:=fun _=>Option AV)
 (Bool.rec (motive:=fun _=>Option AV) none (u5 op k a b) (Nat.beq (ka k) (ka l))) (u5 op k a b) (Pd op)
def Po(u:Value):(IntKind->Int->Option AV)->Option AV:=Value.rec (motive_1:=fun _=>(IntKind->Int->Option AV)->Option AV) (motive_2:=fun _=>PUnit) (motive_3:=fun _=>PUnit) (fun _ _=>none) (fun k i q=>q k i) (fun _ _ _=>none) (fun _ _ _ _=>none) (fun _ _=>none) (fun _ _=>none) (fun _ _ _ _=>none) (fun _ _=>none) (fun _ _=>none) (fun _ _ _ _ _ _=>none) (fun _=>none) (fun _ _ _ _=>none) (fun _=>none) (fun _ _ _=>none) (fun _ _ _=>none) (fun _ _=>⟨⟩) ⟨⟩ (fun _ _ _ _=>⟨⟩) u
def toI(x:AV):(IntKind->Int->Option AV)->Option AV:=AV.rec (motive_1:=fun _=>(IntKind->Int->Option AV)->Option AV) (motive_2:=fun _=>PUnit) (fun u q=>Po u q) (fun _ _ _=>none) (fun _ _ _ _ _ _=>none) (fun _ _=>none) (fun _ _ _ _ _ _=>none) (fun _ _=>none) (fun _ _ _ _=>none) (fun _ _ _=>none) (fun _ _ _=>none) ⟨⟩ (fun _ _ _ _=>⟨⟩) x
def Cb(i:Int):(Nat->Option AV)->Option AV:=Int.rec (motive:=fun _=>(Nat->Option AV)->Option AV) (fun n q=>q n) (fun _ _=>none) i
def Ga(op:BinOp)(k:IntKind)(a:Nat)(l:IntKind)(j:Int):Option AV:=Cb j (Oc op k a l)
def Ld(op:BinOp)(y:AV)(k:IntKind)(i:Int):Option AV:=Cb i fun a=>toI y (Ga op k a)
def Od(op:BinOp)(x y:AV):Option AV:=toI x (Ld op y)
def Pn(u:Value):(Bool->Option AV)->Option AV:=Value.rec (motive_1:=fun _=>(Bool->Option AV)->Option AV) (motive_2:=fun _=>PUnit) (motive_3:=fun _=>PUnit) (fun b q=>q b) (fun _ _ _=>none) (fun _ _ _=>none) (fun _ _ _ _=>none) (fun _ _=>none) (fun _ _=>none) (fun _ _ _ _=>none) (fun _ _=>none) (fun _ _=>none) (fun _ _ _ _ _ _=>none) (fun _=>none) (fun _ _ _ _=>none) (fun _=>none) (fun _ _ _=>none) (fun _ _ _=>none) (fun _ _=>⟨⟩) ⟨⟩ (fun _ _ _ _=>⟨⟩) u
def toB(x:AV):(Bool->Option AV)->Option AV:=AV.rec (motive_1:=fun _=>(Bool->Option AV)->Option AV) (motive_2:=fun _=>PUnit) (fun u q=>Pn u q) (fun _ _ _=>none) (fun _ _ _ _ _ _=>none) (fun _ _=>none) (fun _ _ _ _ _ _=>none) (fun _ _=>none) (fun _ _ _ _=>none) (fun _ _ _=>none) (fun _ _ _=>none) ⟨⟩ (fun _ _ _ _=>⟨⟩) x
def OX(k:IntKind)(i:Int):Option AV:=zQ k (k.wrap (0-i))
def QG(op:UnOp):AV->Option AV:=UnOp.rec (motive:=fun _=>AV->Option AV) (fun x=>toI x OX) (fun _=>none) (fun x=>toB x Ev) (fun _=>none) op
def Pz(P:Program)(s d:TypeId):Option IntKind:=match P.underlying s,P.underlying d with
 |some _,some (.int k)=>some k
 |_,_=>none
def Qr(q:Option IntKind):AV->Option AV:=Option.rec (motive:=fun _=>AV->Option AV) (fun _=>none) (fun k x=>toI x fun _ i=>Int.rec (motive:=fun _=>Option AV) (my k) (fun m=>zQ k (k.wrap (.negSucc m))) i) q
def toP(x:AV):(Nat->Nat->Option AV)->Option AV:=AV.rec (motive_1:=fun _=>(Nat->Nat->Option AV)->Option AV) (motive_2:=fun _=>PUnit) (fun _ _=>none) (fun o f q=>q o f) (fun _ _ _ _ _ _=>none) (fun _ _=>none) (fun _ _ _ _ _ _=>none) (fun _ _=>none) (fun _ _ _ _=>none) (fun _ _ _=>none) (fun _ _ _=>none) ⟨⟩ (fun _ _ _ _=>⟨⟩) x
def Ka(l:List AV):Nat->Option AV:=List.rec (motive:=fun _=>Nat->Option AV) (fun _=>none) (fun x _ ih n=>Nat.rec (motive:=fun _=>Option AV) (some x) (fun m _=>ih m) n) l
def N0(q:Option (Bool×Nat)):List AV->Nat->Option AV:=Option.rec (motive:=fun _=>List AV->Nat->Option AV) (fun _ _=>none)
 (fun q l f=>Bool.rec (motive:=fun _=>Option AV) (Ka l f) (h9 (cm l f q.2) fun l=>some (.agg l)) q.1) q
def QO(q:Option (Bool×Nat))(f:Nat)(x:AO):Option AV:=AO.rec (motive:=fun _=>Option (Bool×Nat)->Nat->Option AV) (fun l _ q f=>N0 q l f) (fun _ _ _ _=>none) (fun _ _ _ _ _ _=>none) (fun _ _ _ _=>none) (fun _ _ _ _ _ _ _ _ _ _ _=>none) (fun _ _ _=>none) x q f
def PD(q:Option (Bool×Nat))(h:HS)(x:AV):Option AV:=toP x fun o f=>h9 (lK (sW o) h.H) (QO q f)
def QC(u:Value):Bool:=Value.rec (motive_1:=fun _=>Bool) (motive_2:=fun _=>PUnit) (motive_3:=fun _=>PUnit) (fun _=>true) (fun _ _=>true) (fun _ _=>true) (fun _ _ _=>true) (fun _=>true) (fun _=>true) (fun _ _ _=>true) (fun _=>true) (fun _=>true) (fun _ _ _ _ _=>true) (true) (fun _ _ _=>true) (true) (fun _ _=>false) (fun _ _=>false) (fun _ _=>⟨⟩) ⟨⟩ (fun _ _ _ _=>⟨⟩) u
def P9(x:AV):Bool:=AV.rec (motive_1:=fun _=>Bool) (motive_2:=fun _=>PUnit) (fun u=>QC u) (fun _ _=>true) (fun _ _ _ _ _=>true) (fun _=>true) (fun _ _ _ _ _=>true) (fun _=>true) (fun _ _ _=>true) (fun _ _=>false) (fun _ _=>false) ⟨⟩ (fun _ _ _ _=>⟨⟩) x
def KI(v:AV)(l:List AV):Nat->Option (List AV):=List.rec (motive:=fun _=>Nat->Option (List AV)) (fun _=>none)
 (fun x l ih n=>Nat.rec (motive:=fun _=>Option (List AV)) (some (v::l)) (fun m _=>h9 (ih m) fun l=>some (x::l)) n) l
def KU(P:Program)(t:TypeId):Bool:=match P.info? t with
 |some i=>Nat.beq 1 i.size
 |none=>false
def QF(h:HS)(o:Nat)(T:TypeId)(l:List AV):Option HS:=some ⟨wh (sW o) (some (.cells l T)) h.H,h.nx⟩
def QT(h:HS)(v:AV)(o f:Nat)(x:AO):Option HS:=AO.rec (motive:=fun _=>HS->AV->Nat->Nat->Option HS) (fun l T h v o f=>h9 (KI v l f) (QF h o T)) (fun _ _ _ _ _ _=>none) (fun _ _ _ _ _ _ _ _=>none) (fun _ _ _ _ _ _=>none) (fun _ _ _ _ _ _ _ _ _ _ _ _ _=>none) (fun _ _ _ _ _=>none) x h v o f
def toPH(x:AV):(Nat->Nat->Option HS)->Option HS:=AV.rec (motive_1:=fun _=>(Nat->Nat->Option HS)->Option HS) (motive_2:=fun _=>PUnit) (fun _ _=>none) (fun o f q=>q o f) (fun _ _ _ _ _ _=>none) (fun _ _=>none) (fun _ _ _ _ _ _=>none) (fun _ _=>none) (fun _ _ _ _=>none) (fun _ _ _=>none) (fun _ _ _=>none) ⟨⟩ (fun _ _ _ _=>⟨⟩) x
def Qh(h:HS)(z:Bool)(a v:AV):Option HS:=Bool.rec (motive:=fun _=>Option HS) none
 (Bool.rec (motive:=fun _=>Option HS) none (toPH a fun o f=>h9 (lK (sW o) h.H) (QT h v o f)) (P9 v)) z
def MG(P:Program)(t:TypeId)(i:Nat):Option Nat:=match P.underlying t with
 |some (.struct fs)=>(fs[i]?).bind fun fl=>(P.info? fl.type).bind fun inf=>match Nat.beq inf.size 0 with
  |false=>some fl.offset
  |true=>none
 |_=>none
def ES(o f:Nat):Option AV:=Nat.rec (motive:=fun _=>Option AV) (some (.ptr o 0)) (fun m _=>some (.ptr o (Nat.succ m))) f
def Qw(q:Option Nat)(x:AV):Option AV:=h9 q fun d=>toP x fun o f=>ES o (Nat.add f d)
def MH(P:Program)(t:TypeId)(i:Nat):Option (Nat×Option (Bool×Nat)):=match P.underlying t with
 |some (.struct fs)=>(fs[i]?).map fun fl=>(fl.offset,dw P fl.type)
 |_=>none
def toG(x:AV):(List AV->Option AV)->Option AV:=AV.rec (motive_1:=fun _=>(List AV->Option AV)->Option AV) (motive_2:=fun _=>PUnit) (fun _ _=>none) (fun _ _ _=>none) (fun _ _ _ _ _ _=>none) (fun _ _=>none) (fun _ _ _ _ _ _=>none) (fun _ _=>none) (fun _ _ _ _=>none) (fun l _ q=>q l) (fun _ _ _=>none) ⟨⟩ (fun _ _ _ _=>⟨⟩) x
def toT(x:AV):(List AV->Option AV)->Option AV:=AV.rec (motive_1:=fun _=>(List AV->Option AV)->Option AV) (motive_2:=fun _=>PUnit) (fun _ _=>none) (fun _ _ _=>none) (fun _ _ _ _ _ _=>none) (fun _ _=>none) (fun _ _ _ _ _ _=>none) (fun _ _=>none) (fun _ _ _ _=>none) (fun _ _ _=>none) (fun l _ q=>q l) ⟨⟩ (fun _ _ _ _=>⟨⟩) x
def Qx(q:Option (Nat×Option (Bool×Nat)))(x:AV):Option AV:=h9 q fun q=>toG x fun l=>N0 q.2 l q.1
def Qv(i:Nat)(x:AV):Option AV:=toT x fun l=>Ka l i
def MO(P:Program)(t:TypeId):Option (Option Nat×Nat):=match P.underlying t with
 |some (.array n e)=>(P.info? e).map fun i=>(some n,i.size)
 |some (.slice e)=>(P.info? e).map fun i=>(none,i.size)
 |_=>none
def Qy(n z:Nat)(x:AV)(i:Nat):Option AV:=toP x fun o f=>Bool.rec (motive:=fun _=>Option AV) none (ES o (Nat.add f (Nat.mul i z))) (Nat.ble (Nat.succ i) n)
def toS(x:AV):(Nat->Nat->Nat->Option AV)->Option AV:=AV.rec (motive_1:=fun _=>(Nat->Nat->Nat->Option AV)->Option AV) (motive_2:=fun _=>PUnit) (fun _ _=>none) (fun _ _ _=>none) (fun o f n _ _ q=>q o f n) (fun _ _=>none) (fun _ _ _ _ _ _=>none) (fun _ _=>none) (fun _ _ _ _=>none) (fun _ _ _=>none) (fun _ _ _=>none) ⟨⟩ (fun _ _ _ _=>⟨⟩) x
def Qz(z:Nat)(x:AV)(i:Nat):Option AV:=toS x fun o f n=>Bool.rec (motive:=fun _=>Option AV) none (ES o (Nat.add f (Nat.mul i z))) (Nat.ble (Nat.succ i) n)
def QN(q:Option Nat):Nat->AV->Nat->Option AV:=Option.rec (motive:=fun _=>Nat->AV->Nat->Option AV) Qz Qy q
def QA(q:Option (Option Nat×Nat))(x y:AV):Option AV:=h9 q fun q=>toI y fun _ i=>Cb i (QN q.1 q.2 x)
def MQ(P:Program)(t:TypeId):Option (Nat×Nat×Option (Bool×Nat)):=match P.underlying t with
 |some (.array n e)=>(P.info? e).map fun i=>(n,i.size,dw P e)
 |_=>none
def QB(q:Option (Nat×Nat×Option (Bool×Nat)))(x y:AV):Option AV:=h9 q fun q=>toI y fun _ i=>Cb i fun i=>toG x fun l=>
 Bool.rec (motive:=fun _=>Option AV) none (N0 q.2.2 l (Nat.mul i q.2.1)) (Nat.ble (Nat.succ i) q.1)
def QR(x:AV):Option AV:=AV.rec (motive_1:=fun _=>Option AV) (motive_2:=fun _=>PUnit) (fun _=>none) (fun o f=>some (.ptr o f)) (fun _ _ _ _ _=>none) (fun _=>none) (fun _ _ _ _ _=>none) (fun _=>none) (fun _ _ _=>none) (fun _ _=>none) (fun _ _=>none) ⟨⟩ (fun _ _ _ _=>⟨⟩) x
inductive RV where
 |val (v:AV)
 |fX (h:HS)
 |enter (g:FuncId) (args:List AV)
 |ext (v:AV) (g:FuncId) (args:List AV)
 |cn
def vR(x:Option AV):RV:=Option.rec (motive:=fun _=>RV) .cn .val x
def uR(x:Option HS):RV:=Option.rec (motive:=fun _=>RV) .cn .fX x
inductive CP where
 |fn (g:FuncId) (args:List Operand)
 |ext (g:FuncId) (args:List Operand)
 |len (x:Operand)
 |no
def HH(P:Program)(c:Call):CP:=match c.callee with
 |.value (.func g)=>(match jH P g with|true=>(match MD g with|true=>.ext g c.args.toList|false=>.fn g c.args.toList)|false=>.no)
 |.builtin .len=>(match c.argTypes.toList,c.args.toList with
  |t::_,[x]=>(match P.underlying t with|some (.slice _)=>.len x|_=>.no)
  |_,_=>.no)
 |_=>.no
def xO(l:List Operand):Tr AV->Option (List AV):=List.rec (motive:=fun _=>Tr AV->Option (List AV)) (fun _=>some []) (fun x _ ih K=>rl (fun v l=>some (v::l)) (nV x K) (ih K)) l
def Qt(g:FuncId)(x:Option (List AV)):RV:=Option.rec (motive:=fun _=>RV) .cn (.enter g) x
def QP(x:AV):Option AV:=toS x fun _ _ n=>qy .i64 n
def Oy(g:FuncId)(l:List AV)(x:Option AV):RV:=Option.rec (motive:=fun _=>RV) .cn (fun v=>.ext v g l) x
def Oz(h:HS)(g:FuncId)(x:Option (List AV)):RV:=Option.rec (motive:=fun _=>RV) .cn (fun l=>Oy g l (tf g h l)) x
def Qq(q:CP):HS->Tr AV->RV:=CP.rec (motive:=fun _=>HS->Tr AV->RV) (fun g l _ K=>Qt g (xO l K)) (fun g l h K=>Oz h g (xO l K)) (fun x _ K=>vR (h9 (nV x K) QP)) (fun _ _=>.cn) q
def Kl(o:Op):Program->HS->Tr AV->RV:=Op.rec (motive:=fun _=>Program->HS->Tr AV->RV)
 (fun x _ _ K=>vR (nV x K))
 (fun x _ _ K=>vR (nV x K))
 (fun _ _ _ _ _ _=>.cn)
 (fun _ _ _ _=>.cn)
 (fun _ _ _ _ _=>.cn)
 (fun _ _ _ _ _=>.cn)
 (fun _ _ _ _ _ _=>.cn)
 (fun _ _ _ _ _ _ _=>.cn)
 (fun t x P h K=>vR (h9 (nV x K) (PD (dw P t) h)))
 (fun t x y P h K=>uR (h9 (nV x K) (fun a=>h9 (nV y K) (Qh h (KU P t) a))))
 (fun _ _ _ _=>.cn)
 (fun _ _ _ _=>.cn)
 (fun x _ _ K=>vR (h9 (nV x K) QR))
 (fun op _ x y _ _ _ K=>vR (rl (Od op) (nV x K) (nV y K)))
 (fun op _ x _ _ K=>vR (h9 (nV x K) (QG op)))
 (fun s d x P _ K=>vR (h9 (nV x K) (Qr (Pz P s d))))
 (fun _ _ _ _ _=>.cn)
 (fun _ _ _ _ _=>.cn)
 (fun _ _ _ _ _ _=>.cn)
 (fun _ _ _ _ _=>.cn)
 (fun _ _ _ _ _=>.cn)
 (fun _ _ _ _ _ _=>.cn)
 (fun _ _ _ _ _ _ _ _=>.cn)
 (fun t x i P _ K=>vR (h9 (nV x K) (Qw (MG P t i))))
 (fun t x i P _ K=>vR (h9 (nV x K) (Qx (MH P t i))))
 (fun t x y P _ K=>vR (rl (QA (MO P t)) (nV x K) (nV y K)))
 (fun t x y P _ K=>vR (rl (QB (MQ P t)) (nV x K) (nV y K)))
 (fun _ _ _ _ _ _ _=>.cn)
 (fun _ _ _ _ _ _ _=>.cn)
 (fun _ _ _ _ _ _=>.cn)
 (fun _ _ _ _ _ _ _=>.cn)
 (fun _ _ _ _ _=>.cn)
 (fun _ _ _ _ _=>.cn)
 (fun _ _ _ _=>.cn)
 (fun _ _ _ _ _ _ _=>.cn)
 (fun x i _ _ K=>vR (h9 (nV x K) (Qv i)))
 (fun c P h K=>Qq (HH P c) h K)
 (fun _ _ _ _=>.cn)
 (fun _ _ _ _=>.cn)
 (fun _ _ _ _=>.cn)
 (fun _ _ _ _ _=>.cn)
 (fun _ _ _ _ _ _=>.cn)
 (fun _ _ _ _ _=>.cn) o
def NV(a b:Bool):Bool:=Bool.rec (motive:=fun _=>Bool) (Bool.rec (motive:=fun _=>Bool) true false b) b a
def Qu(i j:Int):Bool:=Int.rec (motive:=fun _=>Bool) (fun a=>Int.rec (motive:=fun _=>Bool) (fun b=>Nat.beq a b) (fun _=>false) j) (fun _=>false) i
def vI(u:Value):(IntKind->Int->Bool)->Bool:=Value.rec (motive_1:=fun _=>(IntKind->Int->Bool)->Bool) (motive_2:=fun _=>PUnit) (motive_3:=fun _=>PUnit) (fun _ _=>false) (fun k i q=>q k i) (fun _ _ _=>false) (fun _ _ _ _=>false) (fun _ _=>false) (fun _ _=>false) (fun _ _ _ _=>false) (fun _ _=>false) (fun _ _=>false) (fun _ _ _ _ _ _=>false) (fun _=>false) (fun _ _ _ _=>false) (fun _=>false) (fun _ _ _=>false) (fun _ _ _=>false) (fun _ _=>⟨⟩) ⟨⟩ (fun _ _ _ _=>⟨⟩) u
def vB(u:Value):(Bool->Bool)->Bool:=Value.rec (motive_1:=fun _=>(Bool->Bool)->Bool) (motive_2:=fun _=>PUnit) (motive_3:=fun _=>PUnit) (fun b q=>q b) (fun _ _ _=>false) (fun _ _ _=>false) (fun _ _ _ _=>false) (fun _ _=>false) (fun _ _=>false) (fun _ _ _ _=>false) (fun _ _=>false) (fun _ _=>false) (fun _ _ _ _ _ _=>false) (fun _=>false) (fun _ _ _ _=>false) (fun _=>false) (fun _ _ _=>false) (fun _ _ _=>false) (fun _ _=>⟨⟩) ⟨⟩ (fun _ _ _ _=>⟨⟩) u
def pB{α:Type}(a:Option α):Bool:=Option.rec (motive:=fun _=>Bool) true (fun _=>false) a
def QY(u:Value):Bool:=Value.rec (motive_1:=fun _=>Bool) (motive_2:=fun _=>PUnit) (motive_3:=fun _=>PUnit) (fun _=>false) (fun _ _=>false) (fun _ _=>false) (fun _ _ _=>false) (fun _=>false) (fun a=>pB a) (fun _ _ _=>false) (fun _=>false) (fun _=>false) (fun _ _ _ _ _=>false) (false) (fun _ _ _=>false) (false) (fun _ _=>false) (fun _ _=>false) (fun _ _=>⟨⟩) ⟨⟩ (fun _ _ _ _=>⟨⟩) u
def QZ(u:Value):(Nat->Nat->Bool)->Bool:=Value.rec (motive_1:=fun _=>(Nat->Nat->Bool)->Bool) (motive_2:=fun _=>PUnit) (motive_3:=fun _=>PUnit) (fun _ _=>false) (fun _ _ _=>false) (fun _ _ _=>false) (fun _ _ _ _=>false) (fun _ _=>false) (fun _ _=>false) (fun a n c q=>gv (pB a) (q n c)) (fun _ _=>false) (fun _ _=>false) (fun _ _ _ _ _ _=>false) (fun _=>false) (fun _ _ _ _=>false) (fun _=>false) (fun _ _ _=>false) (fun _ _ _=>false) (fun _ _=>⟨⟩) ⟨⟩ (fun _ _ _ _=>⟨⟩) u
def QX(u:Value):Bool:=Value.rec (motive_1:=fun _=>Bool) (motive_2:=fun _=>PUnit) (motive_3:=fun _=>PUnit) (fun _=>false) (fun _ _=>false) (fun _ _=>false) (fun _ _ _=>false) (fun _=>false) (fun _=>false) (fun _ _ _=>false) (fun r=>pB r) (fun _=>false) (fun _ _ _ _ _=>false) (false) (fun _ _ _=>false) (false) (fun _ _=>false) (fun _ _=>false) (fun _ _=>⟨⟩) ⟨⟩ (fun _ _ _ _=>⟨⟩) u
def QV(u:Value):Bool:=Value.rec (motive_1:=fun _=>Bool) (motive_2:=fun _=>PUnit) (motive_3:=fun _=>PUnit) (fun _=>false) (fun _ _=>false) (fun _ _=>false) (fun _ _ _=>false) (fun _=>false) (fun _=>false) (fun _ _ _=>false) (fun _=>false) (fun _=>false) (fun _ _ _ _ _=>false) (true) (fun _ _ _=>false) (false) (fun _ _=>false) (fun _ _=>false) (fun _ _=>⟨⟩) ⟨⟩ (fun _ _ _ _=>⟨⟩) u
def QW(u:Value):Bool:=Value.rec (motive_1:=fun _=>Bool) (motive_2:=fun _=>PUnit) (motive_3:=fun _=>PUnit) (fun _=>false) (fun _ _=>false) (fun _ _=>false) (fun _ _ _=>false) (fun _=>false) (fun _=>false) (fun _ _ _=>false) (fun _=>false) (fun _=>false) (fun _ _ _ _ _=>false) (false) (fun _ _ _=>false) (true) (fun _ _=>false) (fun _ _=>false) (fun _ _=>⟨⟩) ⟨⟩ (fun _ _ _ _=>⟨⟩) u
def PN(u:Value):Value->Bool:=Value.rec (motive_1:=fun _=>Value->Bool) (motive_2:=fun _=>PUnit) (motive_3:=fun _=>PUnit) (fun b w=>vB w (NV b)) (fun k i w=>vI w fun l j=>gv (Nat.beq (ka k) (ka l)) (Qu i j)) (fun _ _ _=>false) (fun _ _ _ _=>false) (fun _ _=>false) (fun a w=>gv (pB a) (QY w)) (fun a n c w=>gv (pB a) (QZ w fun m d=>gv (Nat.beq n m) (Nat.beq c d))) (fun r w=>gv (pB r) (QX w)) (fun _ _=>false) (fun _ _ _ _ _ _=>false) (fun w=>QV w) (fun _ _ _ _=>false) (fun w=>QW w) (fun _ _ _=>false) (fun _ _ _=>false) (fun _ _=>⟨⟩) ⟨⟩ (fun _ _ _ _=>⟨⟩) u
def xP(x:AV):(Value->Bool)->Bool:=AV.rec (motive_1:=fun _=>(Value->Bool)->Bool) (motive_2:=fun _=>PUnit) (fun u q=>q u) (fun _ _ _=>false) (fun _ _ _ _ _ _=>false) (fun _ _=>false) (fun _ _ _ _ _ _=>false) (fun _ _=>false) (fun _ _ _ _=>false) (fun _ _ _=>false) (fun _ _ _=>false) ⟨⟩ (fun _ _ _ _=>⟨⟩) x
def xR(x:AV):(Nat->Nat->Bool)->Bool:=AV.rec (motive_1:=fun _=>(Nat->Nat->Bool)->Bool) (motive_2:=fun _=>PUnit) (fun _ _=>false) (fun o f q=>q o f) (fun _ _ _ _ _ _=>false) (fun _ _=>false) (fun _ _ _ _ _ _=>false) (fun _ _=>false) (fun _ _ _ _=>false) (fun _ _ _=>false) (fun _ _ _=>false) ⟨⟩ (fun _ _ _ _=>⟨⟩) x
def xS(x:AV):(Nat->Nat->Nat->Option Nat->Nat->Bool)->Bool:=AV.rec (motive_1:=fun _=>(Nat->Nat->Nat->Option Nat->Nat->Bool)->Bool) (motive_2:=fun _=>PUnit) (fun _ _=>false) (fun _ _ _=>false) (fun o f n c z q=>q o f n c z) (fun _ _=>false) (fun _ _ _ _ _ _=>false) (fun _ _=>false) (fun _ _ _ _=>false) (fun _ _ _=>false) (fun _ _ _=>false) ⟨⟩ (fun _ _ _ _=>⟨⟩) x
def xA(x:AV):(List AV->Bool)->Bool:=AV.rec (motive_1:=fun _=>(List AV->Bool)->Bool) (motive_2:=fun _=>PUnit) (fun _ _=>false) (fun _ _ _=>false) (fun _ _ _ _ _ _=>false) (fun _ _=>false) (fun _ _ _ _ _ _=>false) (fun _ _=>false) (fun _ _ _ _=>false) (fun l _ q=>q l) (fun _ _ _=>false) ⟨⟩ (fun _ _ _ _=>⟨⟩) x
def xT(x:AV):(List AV->Bool)->Bool:=AV.rec (motive_1:=fun _=>(List AV->Bool)->Bool) (motive_2:=fun _=>PUnit) (fun _ _=>false) (fun _ _ _=>false) (fun _ _ _ _ _ _=>false) (fun _ _=>false) (fun _ _ _ _ _ _=>false) (fun _ _=>false) (fun _ _ _ _=>false) (fun _ _ _=>false) (fun l _ q=>q l) ⟨⟩ (fun _ _ _ _=>⟨⟩) x
def OY(l:List AV):Bool:=List.rec (motive:=fun _=>Bool) true (fun _ _ _=>false) l
def xM(x:AV):(Nat->Bool)->Bool:=AV.rec (motive_1:=fun _=>(Nat->Bool)->Bool) (motive_2:=fun _=>PUnit) (fun _ _=>false) (fun _ _ _=>false) (fun _ _ _ _ _ _=>false) (fun o q=>q o) (fun _ _ _ _ _ _=>false) (fun _ _=>false) (fun _ _ _ _=>false) (fun _ _ _=>false) (fun _ _ _=>false) ⟨⟩ (fun _ _ _ _=>⟨⟩) x
def zJ(x:AV):AV->Bool:=AV.rec (motive_1:=fun _=>AV->Bool) (motive_2:=fun _=>List AV->Bool) (fun u y=>xP y (PN u)) (fun o f y=>xR y fun p g=>gv (Nat.beq o p) (Nat.beq f g)) (fun o f n c z y=>xS y fun p g m d w=>gv (Nat.beq o p) (gv (Nat.beq f g) (gv (Nat.beq n m) (gv (PA c d) (Nat.beq z w))))) (fun o y=>xM y (Nat.beq o)) (fun _ _ _ _ _ _=>false) (fun _ _=>false) (fun _ _ _ _=>false) (fun _ il y=>xA y il) (fun _ il y=>xT y il) OY (fun _ _ ix il l=>List.rec (motive:=fun _=>Bool) false (fun y l _=>gv (ix y) (il l)) l) x
def DU(l m:List AV):Bool:=List.rec (motive:=fun _=>List AV->Bool) OY (fun x _ ih m=>List.rec (motive:=fun _=>Bool) false (fun y m _=>gv (zJ x y) (ih m)) m) l m
def Dj(l m:List (AV×AV×Nat)):Bool:=List.rec (motive:=fun _=>List (AV×AV×Nat)->Bool) (fun m=>List.rec (motive:=fun _=>Bool) true (fun _ _ _=>false) m)
 (fun x _ ih m=>List.rec (motive:=fun _=>Bool) false (fun y m _=>gv (gv (zJ x.1 y.1) (gv (zJ x.2.1 y.2.1) (Nat.beq x.2.2 y.2.2))) (ih m)) m) l m
def yC(x:AO):(List AV->TypeId->Bool)->Bool:=AO.rec (motive:=fun _=>(List AV->TypeId->Bool)->Bool) (fun l T q=>q l T) (fun _ _ _=>false) (fun _ _ _ _ _=>false) (fun _ _ _=>false) (fun _ _ _ _ _ _ _ _ _ _=>false) (fun _ _=>false) x
def yM(x:AO):(List (AV×AV×Nat)->Nat->Bool)->Bool:=AO.rec (motive:=fun _=>(List (AV×AV×Nat)->Nat->Bool)->Bool) (fun _ _ _=>false) (fun es c q=>q es c) (fun _ _ _ _ _=>false) (fun _ _ _=>false) (fun _ _ _ _ _ _ _ _ _ _=>false) (fun _ _=>false) x
def PM(x y:AO):Bool:=AO.rec (motive:=fun _=>AO->Bool) (fun l T w=>yC w fun m U=>gv (DU l m) (Nat.beq T U)) (fun es c w=>yM w fun fs d=>gv (Dj es fs) (Nat.beq c d)) (fun _ _ _ _ _=>false) (fun _ _ _=>false) (fun _ _ _ _ _ _ _ _ _ _=>false) (fun _ _=>false) x y
def Nj(x:Option AO)(y:Option AO):Bool:=Option.rec (motive:=fun _=>Bool) false (fun a=>Option.rec (motive:=fun _=>Bool) false (fun b=>PM a b) y) x
def vC(ids:List Nat)(H:Tr AO):Tr AO:=List.rec (motive:=fun _=>Tr AO) .nil (fun o _ t=>wh (sW o) (lK (sW o) H) t) ids
def Dy(ids:List Nat)(H G:Tr AO):Bool:=List.rec (motive:=fun _=>Bool) true (fun o _ r=>gv (Nj (lK (sW o) H) (lK (sW o) G)) r) ids
def E5(a b:Nat):Nat:=Bool.rec (motive:=fun _=>Nat) a b (Nat.ble a b)
def allEq(ids:List Nat)(q:HS×AV)(l:List (HS×AV)):Bool:=List.rec (motive:=fun _=>Bool) true (fun p _ r=>gv (zJ p.2 q.2) (gv (Dy ids p.1.H q.1.H) r)) l
def Ai(l:List (HS×AV)):Nat:=List.rec (motive:=fun _=>Nat) 0 (fun p _ r=>E5 p.1.nx r) l
def Nh(l:List (HS×AV))(q:HS×AV)(L:List (List Nat)):List (HS×AV):=List.rec (motive:=fun _=>List (HS×AV)) l (fun ids _ ih=>Bool.rec (motive:=fun _=>List (HS×AV)) ih [(⟨vC ids q.1.H,Ai l⟩,q.2)] (allEq ids q l)) L
def EX(l:List AF):Nat:=List.rec (motive:=fun _=>Nat) 0 (fun _ _ n=>Nat.succ n) l
def DD(d:Nat)(l:List (HS×AV)):List (HS×AV):=List.rec (motive:=fun _=>List (HS×AV)) [] (fun q t _=>List.rec (motive:=fun _=>List (HS×AV)) l (fun _ _ _=>Nh l q (GZ q.1.nx d)) t) l
def DB(cs:List AF)(l:List (HS×AV)):List (HS×AV):=List.rec (motive:=fun _=>List (HS×AV)) l (fun _ t _=>DD (EX t) l) cs
def lI(ops:Array Oper)(i:Nat):Option Oper:=ops[i]?
def QE(ops:Array Oper):List Nat:=List.range ops.size
def kT(ih:mF)(c:Cx)(h:HS)(K:Tr AV)(td:List AI)(d:Option Nat):AV->bN:=Option.rec (motive:=fun _=>AV->bN) (fun _=>ih c h K td .run)
 (fun d v=>Bool.rec (motive:=fun _=>bN) none (ih c h (wh (sW d) (some v) K) td .run) (Nat.ble (Nat.succ d) c.n)) d
def uG(n:Nat)(f:Nat->bN):bN:=Nat.rec (motive:=fun _=>bN) (f 0) (fun m _=>f (Nat.succ m)) n
def GR{α:Type}(l:List α)(f:List α->bN):bN:=List.rec (motive:=fun _=>bN) (f []) (fun a l _=>f (a::l)) l
def ML(o:Option Nat)(f:Option Nat->bN):bN:=Option.rec (motive:=fun _=>bN) (f none) (fun n=>f (some n)) o
def MM(t:Tr AV)(f:Tr AV->bN):bN:=Tr.rec (motive:=fun _=>bN) (f .nil) (fun v a b c d _ _ _ _=>f (.nd v a b c d)) t
def MJ(k:CallKind)(f:CallKind->bN):bN:=CallKind.rec (motive:=fun _=>bN) (f .normal) (f .deferred) (f .wrapped) (f .report) (f .early) k
def GS(t:Tr AO)(f:Tr AO->bN):bN:=Tr.rec (motive:=fun _=>bN) (f .nil) (fun v a b c d _ _ _ _=>f (.nd v a b c d)) t
def MI(h:HS)(f:HS->bN):bN:=HS.rec (motive:=fun _=>bN) (fun H nx=>uG nx fun nx=>GS H fun H=>f ⟨H,nx⟩) h
def Ob(ih:mF)(e:Nat)(cs:List AF)(h:HS)(A:AF):bN:=AF.rec (motive:=fun _=>bN) (fun fn n K td ds md kind rd=>
 uG fn fun fn=>uG n fun n=>GR ds fun ds=>MJ kind fun kind=>ML rd fun rd=>MM K fun K=>ih ⟨e,cs,fn,n,ds,kind,rd⟩ h K td md) A
def oT(ih:mF)(e:Nat)(s:mn):bN:=mn.rec (motive:=fun _=>bN) (fun h A cs=>GR cs fun cs=>MI h fun h=>Ob ih e cs h A) s
def zE(ops:Array Oper)(j:Nat):Option Nat:=(lI ops j).bind (·.dst)
def v7(ops:Array Oper)(c:Nat)(l:List (Nat×Fl)):List (Nat×Fl):=List.rec (motive:=fun _=>List (Nat×Fl)) [] (fun q _ r=>Bool.rec (motive:=fun _=>List (Nat×Fl)) (q::r) r (D.jY ops q.1 c)) l
def PO(x:AI):mF->Nat->List AF->FuncId->Nat->List AD->CallKind->Option Nat->HS->Tr AV->List AI->AV->bN->bN:=
 AI.rec (motive:=fun _=>mF->Nat->List AF->FuncId->Nat->List AD->CallKind->Option Nat->HS->Tr AV->List AI->AV->bN->bN)
 (fun _ _ _ _ _ _ _ _ _ _ _ _ _ z=>z)
 (fun _ _ _ _ _ _ _ _ _ _ _ _ _ z=>z)
 (fun _ _ _ _ _ _ _ _ _ _ _ _ _ z=>z)
 (fun _ _ _ _ _ _ _ _ _ _ _ _ _ z=>z)
 (fun ops l ih e cs fn n ds kind rd h K k v z=>List.rec (motive:=fun _=>bN) z (fun i l _=>kT ih ⟨e,cs,fn,n,ds,kind,rd⟩ h K (.ops ops l::k) (zE ops i) v) l)
 (fun ops K0 td pe ih e cs fn n ds kind rd h K k v z=>List.rec (motive:=fun _=>bN) z (fun i l _=>kT ih ⟨e,cs,fn,n,ds,kind,rd⟩ h K (.mu ops K0 l (v7 ops i pe)::k) (zE ops i) v) td)
 (fun o ih e cs fn n ds kind rd h K k _ _=>ih ⟨e,cs,fn,n,ds,kind,rd⟩ h K (.er o::k) .run)
 (fun _ _ _ _ _ _ _ _ _ _ _ _ _ z=>z)
 (fun _ _ _ _ _ _ _ _ _ _ _ _ z=>z) x
def uC(A:AF)(ih:mF)(e:Nat)(cs:List AF)(h:HS)(v:AV)(z:bN):bN:=
 AF.rec (motive:=fun _=>bN) (fun fn n K td ds md kind rd=>AM.rec (motive:=fun _=>bN) (List.rec (motive:=fun _=>bN) z (fun x k _=>PO x ih e cs fn n ds kind rd h K k v z) td) z (fun _=>z) md) A
abbrev N4:=Option (List (HS×AV))
def Kr(l:List Rt):N4:=List.rec (motive:=fun _=>N4) (some []) (fun x _ r=>Rt.rec (motive:=fun _=>N4) (fun h v=>h9 r fun l=>some ((h,v)::l)) (fun _ _ _ _ _=>none) x) l
def F1{α:Type}(g:α->bN)(l:List α):N4:=List.rec (motive:=fun _=>N4) (some []) (fun s _ r=>rl (fun a b=>some (a++b)) (h9 (g s) Kr) r) l
def Oa(l:List (HS×AV)):List Rt:=List.rec (motive:=fun _=>List Rt) [] (fun q _ r=>.ret q.1 q.2::r) l
def one?(l:List (HS×AV)):Option (HS×AV):=match l with
 |[s]=>some s
 |_=>none
def Gr(ih:mF)(e:Nat):List AF->List (HS×AV)->bN:=Nat.rec (motive:=fun _=>List AF->List (HS×AV)->bN) (fun _ l=>some (Oa l))
 (fun e go cs l=>List.rec (motive:=fun _=>bN) none (fun A cs _=>Option.rec (motive:=fun _=>bN)
  (h9 (F1 (fun q=>uC A ih 0 cs q.1 q.2 none) l) fun l=>go cs (DB cs l)) (fun q=>uC A ih e cs q.1 q.2 none) (one? l)) cs) e
def M7(k:CallKind):Bool:=match k with
 |.normal=>true
 |_=>false
def Qa(ih:mF)(c:Cx)(s:mn):bN:=Nat.rec (motive:=fun _=>bN) (Bool.rec (motive:=fun _=>bN) none (oT ih 0 s) (M7 c.kind)) (fun e _=>oT ih (Nat.succ e) s) c.e
def Qc(ih:mF)(e:Nat)(s:mn):bN:=Nat.rec (motive:=fun _=>bN) none (fun e _=>oT ih e s) e
def cn(P:Program)(ih:mF)(c:Cx)(h:HS)(K:Tr AV)(td:List AI)(md:AM):bN:=match ef P (Cx.rec (motive:=fun _=>mn) (fun _ cs fn n ds kind rd=>⟨h,⟨fn,n,K,td,ds,md,kind,rd⟩,cs⟩) c)with
 |.one s=>Qa ih c s
 |.push s=>oT ih (Nat.succ c.e) s
 |.pop s=>Qc ih c.e s
 |.many l=>h9 (F1 (oT ih 0) l) fun l=>Gr ih c.e c.cs (DB c.cs l)
 |.fin=>none
 |.bad _=>none
def C7(P:Program)(g:FuncId):Option (Code×Nat):=(P.funcs[g]?).bind fun fn=>fn.body.map fun c=>(c,fn.ntmps)
def I4(l:List AV):Nat->Tr AV->Tr AV:=List.rec (motive:=fun _=>Nat->Tr AV->Tr AV) (fun _ K=>K) (fun v _ ih i K=>ih (Nat.succ i) (wh (sW i) (some v) K)) l
def JV(l:List AV):Nat:=List.rec (motive:=fun _=>Nat) 0 (fun _ _ n=>Nat.succ n) l
def Da(P:Program)(ih:mF)(c:Cx)(h:HS)(K:Tr AV)(td:List AI)(g:FuncId)(args:List AV):bN:=h9 (C7 P g) fun q=>Prod.rec (motive:=fun _=>bN) (fun cd m=>uG m fun m=>
 Bool.rec (motive:=fun _=>bN) none (Cx.rec (motive:=fun _=>bN) (fun e cs fn n ds kind rd=>ih ⟨Nat.succ e,⟨fn,n,K,td,ds,.run,kind,rd⟩::cs,g,m,[],.normal,none⟩ h (I4 args 0 .nil) [.code cd] .run) c) (Nat.ble (JV args) m)) q
def PG(r:RV):Program->mF->Cx->HS->Tr AV->Array Oper->Nat->List Nat->List AI->Option Nat->bN:=
 RV.rec (motive:=fun _=>Program->mF->Cx->HS->Tr AV->Array Oper->Nat->List Nat->List AI->Option Nat->bN)
 (fun v _ ih c h K ops _ l k d=>kT ih c h K (.ops ops l::k) d v)
 (fun h' _ ih c _ K ops _ l k d=>kT ih c h' K (.ops ops l::k) d dU)
 (fun g a P ih c h K ops i l k _=>Da P ih c h K (.ops ops (i::l)::k) g a)
 (fun v _ _ _ ih c h K ops _ l k d=>kT ih c h K (.ops ops l::k) d v)
 (fun P ih c h K ops i l k _=>cn P ih c h K (.ops ops (i::l)::k) .run) r
def O1(P:Program)(ih:mF)(c:Cx)(h:HS)(K:Tr AV)(ops:Array Oper)(i:Nat)(l:List Nat)(k:List AI)(o:Oper):bN:=
 PG (Kl o.op P h K) P ih c h K ops i l k o.dst
def Pm(u:Value):(Bool->bN)->bN->bN:=Value.rec (motive_1:=fun _=>(Bool->bN)->bN->bN) (motive_2:=fun _=>PUnit) (motive_3:=fun _=>PUnit) (fun b q _=>q b) (fun _ _ _ z=>z) (fun _ _ _ z=>z) (fun _ _ _ _ z=>z) (fun _ _ z=>z) (fun _ _ z=>z) (fun _ _ _ _ z=>z) (fun _ _ z=>z) (fun _ _ z=>z) (fun _ _ _ _ _ _ z=>z) (fun _ z=>z) (fun _ _ _ _ z=>z) (fun _ z=>z) (fun _ _ _ z=>z) (fun _ _ _ z=>z) (fun _ _=>⟨⟩) ⟨⟩ (fun _ _ _ _=>⟨⟩) u
def toA(x:AV):(Bool->bN)->bN->bN:=AV.rec (motive_1:=fun _=>(Bool->bN)->bN->bN) (motive_2:=fun _=>PUnit) (fun u q z=>Pm u q z) (fun _ _ _ z=>z) (fun _ _ _ _ z _ z=>z) (fun _ _ z=>z) (fun _ _ _ _ _ _ z=>z) (fun _ _ z=>z) (fun _ _ _ _ z=>z) (fun _ _ _ z=>z) (fun _ _ _ z=>z) ⟨⟩ (fun _ _ _ _=>⟨⟩) x
def MN(g:Option (Nat×Bool)):Program->mF->Cx->HS->Tr AV->Array Oper->Nat->List Nat->List AI->Oper->bN:=
 Option.rec (motive:=fun _=>Program->mF->Cx->HS->Tr AV->Array Oper->Nat->List Nat->List AI->Oper->bN) O1
 (fun g P ih c h K ops i l k o=>Option.rec (motive:=fun _=>bN) none
  (fun v=>toA v (fun b=>Bool.rec (motive:=fun _=>bN) (kT ih c h K (.ops ops l::k) o.dst dU) (O1 P ih c h K ops i l k o) (NV b g.2)) (cn P ih c h K (.ops ops (i::l)::k) .run))
  (h9 (zE ops g.1) fun d=>lK (sW d) K)) g
def O2(P:Program)(ih:mF)(c:Cx)(h:HS)(K:Tr AV)(ops:Array Oper)(k:List AI)(l:List Nat):bN:=List.rec (motive:=fun _=>bN) (ih c h K k .run)
 (fun i l _=>Option.rec (motive:=fun _=>bN) none (fun o=>MN o.guard P ih c h K ops i l k o) (lI ops i)) l
def Lj(o:Oper):Bool:=match o.guard with
 |none=>true
 |some _=>false
def F4(ops:Array Oper)(td:List Nat)(i:Nat):Bool:=td.any fun c=>D.jY ops c i
def B8(ops:Array Oper)(i:Nat)(o:Oper):Bool:=(o.looksAt ops).all fun t=>match D.writer ops t with
 |none=>true
 |some j=>D.jY ops j i
def Nk(ops:Array Oper)(td:List Nat):Bool:=match td with
 |[]=>true
 |c::t=>t.all fun c'=>D.jY ops c c'
def Mm(P:Program)(ops:Array Oper)(n:Nat):Bool:=P.follows .mixedOrders&&Bw ops n
def Mq(K:Tr AV)(n:Nat)(v:AV)(d:Option Nat):Bool:=Option.rec (motive:=fun _=>Bool) true (fun d=>Bool.rec (motive:=fun _=>Bool) false (Option.rec (motive:=fun _=>Bool) false (fun u=>zJ u v) (lK (sW d) K)) (Nat.ble (Nat.succ d) n)) d
abbrev zh:=Option (Tr AV×List (Nat×Fl))
def A6(ih:Tr AV->zh)(q:Nat×Fl)(K:Tr AV):zh:=h9 (ih K) fun r=>some (r.1,q::r.2)
def Pf(n:Nat)(ih:Tr AV->zh)(i:Nat)(K:Tr AV)(v:AV)(d:Option Nat):zh:=Option.rec (motive:=fun _=>zh) (A6 ih (i,.val) K)
 (fun d=>Bool.rec (motive:=fun _=>zh) none (A6 ih (i,.val) (wh (sW d) (some v) K)) (Nat.ble (Nat.succ d) n)) d
def ND(P:Program)(ops:Array Oper)(n:Nat)(h:HS)(ih:Tr AV->zh)(i:Nat)(K:Tr AV)(o:Oper):zh:=
 Bool.rec (motive:=fun _=>zh) none (Bool.rec (motive:=fun _=>zh) none (RV.rec (motive:=fun _=>zh) (fun v=>Pf n ih i K v o.dst) (fun _=>none) (fun _ _=>none) (fun _ _ _=>none) none (Kl o.op P h K)) (Lj o)) (B8 ops i o)
def yR(P:Program)(ops:Array Oper)(td:List Nat)(n:Nat)(h:HS)(l:List (Nat×Fl)):Tr AV->zh:=List.rec (motive:=fun _=>Tr AV->zh) (fun K=>some (K,[]))
 (fun q _ ih K=>Fl.rec (motive:=fun _=>zh) (Bool.rec (motive:=fun _=>zh) (h9 (lI ops q.1) (ND P ops n h ih q.1 K)) (A6 ih q K) (F4 ops td q.1)) (A6 ih q K) (fun _=>A6 ih q K) q.2) l
def Ml(P:Program)(ops:Array Oper)(n:Nat)(h:HS)(K:Tr AV)(i:Nat)(o:Oper):Bool:=
 gv (B8 ops i o) (gv (Lj o) (RV.rec (motive:=fun _=>Bool) (fun v=>Mq K n v o.dst) (fun _=>false) (fun _ _=>false) (fun _ _ _=>false) false (Kl o.op P h K)))
def Gd(P:Program)(ops:Array Oper)(td:List Nat)(n:Nat)(h:HS)(K:Tr AV)(l:List (Nat×Fl)):Bool:=List.rec (motive:=fun _=>Bool) true
 (fun q _ r=>gv (Fl.rec (motive:=fun _=>Bool) (F4 ops td q.1) (Option.rec (motive:=fun _=>Bool) false (Ml P ops n h K q.1) (lI ops q.1)) (fun _=>false) q.2) r) l
def Gv(P:Program)(ih:mF)(c:Cx)(h:HS)(K:Tr AV)(ops:Array Oper)(K0:Tr AV)(i:Nat)(t:List Nat)(pe:List (Nat×Fl))(k:List AI)(z:bN)(o:Oper):bN:=
 Bool.rec (motive:=fun _=>bN) z (Bool.rec (motive:=fun _=>bN) z (RV.rec (motive:=fun _=>bN)
  (fun v=>kT ih c h K (.mu ops K0 t (v7 ops i pe)::k) o.dst v) (fun h=>kT ih c h K (.mu ops K0 t (v7 ops i pe)::k) o.dst dU)
  (fun g a=>Da P ih c h K (.mu ops K0 (i::t) pe::k) g a)
  (fun v _ _=>kT ih c h K (.mu ops K0 t (v7 ops i pe)::k) o.dst v) z (Kl o.op P h K)) (Lj o)) (B8 ops i o)
def PK(P:Program)(ih:mF)(c:Cx)(h:HS)(ops:Array Oper)(K0:Tr AV)(td:List Nat)(k:List AI)(z:bN)(r:Tr AV×List (Nat×Fl)):bN:=Prod.rec (motive:=fun _=>bN) (fun K pe=>
 Bool.rec (motive:=fun _=>bN) z (Bool.rec (motive:=fun _=>bN) z (List.rec (motive:=fun _=>bN) (ih c h K k .run) (fun i t _=>Option.rec (motive:=fun _=>bN) z (Gv P ih c h K ops K0 i t pe k z) (lI ops i)) td) (Nk ops td)) (Gd P ops td c.n h K pe)) r
def Gs(P:Program)(ih:mF)(c:Cx)(h:HS)(K:Tr AV)(ops:Array Oper)(K0:Tr AV)(td:List Nat)(pe:List (Nat×Fl))(k:List AI)(z:bN):bN:=
 Option.rec (motive:=fun _=>bN) z (PK P ih c h ops K0 td k z) (yR P ops td c.n h pe K)
def Gk(P:Program)(ih:mF)(c:Cx)(h:HS)(K:Tr AV)(k:List AI)(a b:Code)(z:bN)(x:Operand):bN:=Option.rec (motive:=fun _=>bN) z
 (fun v=>toA v (fun t=>Bool.rec (motive:=fun _=>bN) (ih c h K (.code b::k) .run) (ih c h K (.code a::k) .run) t) z) (nV x K)
def Ox(id:Nat)(l:List AI):Option (List AI):=List.rec (motive:=fun _=>Option (List AI)) none
 (fun x k ih=>AI.rec (motive:=fun _=>Nat->List AI->Option (List AI)->Option (List AI))
 (fun _ _ _ ih=>ih)
 (fun id n k ih=>Bool.rec (motive:=fun _=>Option (List AI)) ih (some k) (Nat.beq id n))
 (fun _ _ _ ih=>ih)
 (fun _ _ _ ih=>ih)
 (fun _ _ _ _ ih=>ih)
 (fun _ _ _ _ _ _ ih=>ih)
 (fun _ _ _ ih=>ih)
 (fun _ _ _ ih=>ih)
 (fun _ _ ih=>ih) x id k ih) l
def O3(P:Program)(h:HS)(K:Tr AV)(r:ResultVar):Option AV:=ResultVar.rec (motive:=fun _=>Option AV) (fun t=>lK (sW t) K) (fun a t=>h9 (lK (sW a) K) (PD (dw P t) h)) r
def HQ(P:Program)(h:HS)(K:Tr AV)(l:List ResultVar):Option (List AV):=List.rec (motive:=fun _=>Option (List AV)) (some []) (fun r _ ih=>rl (fun v l=>some (v::l)) (O3 P h K r) ih) l
def Kq(P:Program)(f:FuncId):Option (List ResultVar):=(P.funcs[f]?).map fun fn=>fn.results.toList
def vA(l:List AV):AV:=List.rec (motive:=fun _=>AV) (.du []) (fun x l _=>List.rec (motive:=fun _=>AV) x (fun y l _=>.du (x::y::l)) l) l
def Ms(cs:List AF)(h:HS)(v:AV)(z:bN):bN:=List.rec (motive:=fun _=>bN) (some [.ret h v]) (fun A cs _=>uC A (fun _ _ _ _ _=>some [.ret h v]) 0 cs h v z) cs
def O4(P:Program)(ih:mF)(c:Cx)(h:HS)(K:Tr AV)(z:bN):bN:=uG c.fn fun f=>Option.rec (motive:=fun _=>bN) z
 (fun l=>Nat.rec (motive:=fun _=>bN) (Ms c.cs h (vA l) z) (fun e _=>List.rec (motive:=fun _=>bN) z (fun A cs _=>uC A ih e cs h (vA l) z) c.cs) c.e) (h9 (Kq P f) (HQ P h K))
def HR(P:Program)(ih:mF)(c:Cx)(h:HS)(K:Tr AV)(z:bN):bN:=Option.rec (motive:=fun _=>bN)
 (List.rec (motive:=fun _=>bN) (Bool.rec (motive:=fun _=>bN) z (O4 P ih c h K z) (M7 c.kind)) (fun _ _ _=>z) c.ds) (fun _=>z) c.rd
def Lg(x:Code):Program->mF->Cx->HS->Tr AV->List AI->bN:=Code.rec (motive:=fun _=>Program->mF->Cx->HS->Tr AV->List AI->bN)
 (fun _ ih c h K k=>ih c h K k .run)
 (fun id ops dr P ih c h K k=>Bool.rec (motive:=fun _=>bN) (ih c h K (.ops ops (QE ops)::k) .run) (Bool.rec (motive:=fun _=>bN) (cn P ih c h K (.code (.region id ops dr)::k) .run) (ih c h K (.mu ops K (rn ops) (pF ops)::k) .run) (Mm P ops c.n)) dr)
 (fun a b _ _ _ ih c h K k=>ih c h K (.code a:: .code b::k) .run)
 (fun x a b _ _ P ih c h K k=>Gk P ih c h K k a b (cn P ih c h K (.code (.cond x a b)::k) .run) x)
 (fun id b _ _ ih c h K k=>ih c h K (.code b:: .lb id::k) .run)
 (fun b _ _ ih c h K k=>ih c h K (.code b:: .lp b::k) .run)
 (fun f ps a b _ _ P ih c h K k=>cn P ih c h K (.code (.rangeFunc f ps a b)::k) .run)
 (fun id P ih c h K k=>Option.rec (motive:=fun _=>bN) (cn P ih c h K (.code (.exit id)::k) .run) (fun k=>ih c h K k .run) (Ox id k))
 (fun b _ _ ih c h K k=>ih c h K (.code b:: .sc b::k) .run)
 (fun n P ih c h K k=>cn P ih c h K (.code (.label n)::k) .run)
 (fun n P ih c h K k=>cn P ih c h K (.code (.goto n)::k) .run)
 (fun P ih c h K k=>HR P ih c h K (cn P ih c h K (.code .ret::k) .run))
 (fun y P ih c h K k=>cn P ih c h K (.code (.refuse y)::k) .run) x
def Ll(x:AI):Program->mF->Cx->HS->Tr AV->List AI->bN:=AI.rec (motive:=fun _=>Program->mF->Cx->HS->Tr AV->List AI->bN)
 (fun cd P ih c h K k=>Lg cd P ih c h K k)
 (fun _ _ ih c h K k=>ih c h K k .run)
 (fun cd _ ih c h K k=>ih c h K (.code cd:: .lp cd::k) .run)
 (fun _ _ ih c h K k=>ih c h K k .run)
 (fun ops l P ih c h K k=>O2 P ih c h K ops k l)
 (fun ops K0 td pe P ih c h K k=>Gs P ih c h K ops K0 td pe k (cn P ih c h K (.mu ops K0 td pe::k) .run))
 (fun o P ih c h K k=>cn P ih c h K (.rf o::k) .run)
 (fun o P ih c h K k=>cn P ih c h K (.er o::k) .run)
 (fun P ih c h K k=>cn P ih c h K (.br::k) .run) x
def Qf(x:AI):Program->mF->Cx->HS->Tr AV->bN->bN:=
 AI.rec (motive:=fun _=>Program->mF->Cx->HS->Tr AV->bN->bN)
 (fun _ P ih c h K z=>HR P ih c h K z)
 (fun _ _ _ _ _ _ z=>z)
 (fun _ _ _ _ _ _ z=>z)
 (fun _ _ _ _ _ _ z=>z)
 (fun _ _ _ _ _ _ _ z=>z)
 (fun _ _ _ _ _ _ _ _ _ z=>z)
 (fun _ _ _ _ _ _ z=>z)
 (fun _ _ _ _ _ _ z=>z)
 (fun _ _ _ _ _ z=>z) x
def Ly(P:Program)(ih:mF)(c:Cx)(h:HS)(K:Tr AV)(td:List AI)(md:AM):bN:=AM.rec (motive:=fun _=>bN)
 (List.rec (motive:=fun _=>bN) (HR P ih c h K (cn P ih c h K [] .run)) (fun x k _=>Ll x P ih c h K k) td)
 (List.rec (motive:=fun _=>bN) (HR P ih c h K (cn P ih c h K td .ret)) (fun x _ _=>Qf x P ih c h K (cn P ih c h K td .ret)) td) (fun l=>cn P ih c h K td (.Bi l)) md
def O7(P:Program)(f:Nat):mF:=Nat.rec (motive:=fun _=>mF) (fun c h K td md=>some [.stop c h K td md]) (fun _ ih c h K td md=>Ly P ih c h K td md) f
end
end Go.Proofs.YtjfkdglgecgjfaaGreat.R
