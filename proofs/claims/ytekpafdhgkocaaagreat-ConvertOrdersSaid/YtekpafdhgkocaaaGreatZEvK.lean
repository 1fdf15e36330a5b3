/- Part of the proof. -/
import Derived.Test.YtekpafdhgkocaaaGreatZEvC
namespace Go.Proofs.YtekpafdhgkocaaaGreat
section
open Go.RowKit G
namespace E
variable {S:Nat->Type}{tb:Tb S}{K:jy tb}{P:Program}{tt:TypeId->Option (TI S)}{Φ:List (cV S)}{fa:FA S}{o:Oper}{xs:List (AV S)}{ob:List (Nat×Nat×AO S)}{ct:Nat}{γ:Type}{k:sS S->Option γ}{r:γ}
theorem OM{c:Call}{b:Builtin}(hc:c.callee=.builtin b)(ho:o.op=.call c)(hl:xs.length=o.op.operands.toList.length)(h1:xs.length=1):∃x,c.args= #[x]:=by
 rw[ho]at hl;simp[Op.operands,Call.operands,hc,h1]at hl;obtain⟨x,hx⟩:=Array.size_eq_one_iff.1 hl.symm;exact⟨x,hx⟩
theorem AY{c:Call}{b:Builtin}(hc:c.callee=.builtin b)(ho:o.op=.call c)(hl:xs.length=o.op.operands.toList.length)(h1:xs.length=2):∃x y,c.args= #[x,y]:=by
 rw[ho]at hl;simp[Op.operands,Call.operands,hc,h1]at hl
 match hc:c.args with
 |⟨[x,y]⟩=>exact⟨x,y,rfl⟩
 |⟨[]⟩=>rw[hc]at hl;simp at hl
 |⟨[_]⟩=>rw[hc]at hl;simp at hl
 |⟨_::_::_::_⟩=>rw[hc]at hl;simp at hl
theorem Ti(hT:gu P K tt)(hΦ:∀c∈Φ,Sound P K c)(hl:xs.length=o.op.operands.toList.length)(h:core tb tt Φ fa o xs ob ct k=some r):jo P K o xs ob ct k r:=by
 unfold core at h;split at h
 case h_1 ho=>split at h;exact T5 (.inl ho) h;cases h
 case h_2 ho=>split at h;exact T5 (.inr ho) h;cases h
 case h_3 ho=>split at h;exact aaq ho h;cases h
 case h_4 ho=>split at h;exact Sq ho h;cases h
 case h_5 ho=>
  split at h
  . exact Qy ho h
  . cases h
 case h_6 ho=>split at h;exact ach hT ho h;cases h
 case h_7 ho=>split at h;exact adx ho h;cases h
 case h_8 ho=>split at h;exact aal hT ho h;cases h
 case h_9 ho=>
  split at h
  . obtain⟨ti,hti,h⟩:=aa.1 h
    split at h
    . rename_i fs hd
      obtain⟨f,hf,h⟩:=aa.1 h
      exact OH hT ho hti hd hf h
    . cases h
  . cases h
 case h_10 ho=>
  split at h
  . obtain⟨ti,hti,h⟩:=aa.1 h
    split at h
    . rename_i fs hd
      obtain⟨f,hf,h⟩:=aa.1 h
      obtain⟨fi,hfi,h⟩:=aa.1 h
      exact XR hT ho hti hd hf hfi h
    . cases h
  . cases h
 case h_11 ho=>
  obtain⟨ti,hti,h⟩:=aa.1 h
  obtain⟨cs,hcs,h⟩:=aa.1 h
  exact XN hT ho hti h hcs
 case h_12 ho=>
  obtain⟨vs,hvs,h⟩:=aa.1 h
  exact Qw ho hvs h
 case h_13 ho=>
  obtain⟨ti,hti,h⟩:=aa.1 h
  exact XM hT ho hti h
 case h_14 ho=>
  split at h
  . obtain⟨cs,hcs,h⟩:=aa.1 h
    exact aci ho hcs h
  . cases h
 case h_15 ho=>split at h;exact aao hT ho h;cases h
 case h_16 ho=>split at h;exact XW hT ho h;cases h
 case h_17 ho=>
  split at h
  . obtain⟨i,hi,h⟩:=aa.1 h
    exact OI hT ho hi h
  . cases h
 case h_18 ho=>
  obtain⟨ti,hti,h⟩:=aa.1 h
  split at h
  . rename_i hd _
    obtain⟨i,hi,h⟩:=aa.1 h
    obtain⟨c,hc,h⟩:=aa.1 h
    have htd:=(hT.ty _ ti hti).td
    rw[hd]at htd
    exact XU ho htd hi hc h
  . rename_i hd _
    obtain⟨ei,hei,h⟩:=aa.1 h
    obtain⟨i,hi,h⟩:=aa.1 h
    have htd:=(hT.ty _ ti hti).td
    rw[hd]at htd
    split at h
    . rename_i h1 h2 h3
      obtain⟨u,hc,hk⟩:=aa.1 h
      have h1:=ah h1
      subst h1
      exact Qu hT ho htd hei (ah h2) h3 hi (nH hc) hk
    . cases h
  . cases h
 case h_19 ho=>
  split at h
  . obtain⟨⟨a1,a2⟩,ha,h⟩:=aa.1 h
    obtain⟨⟨b1,b2⟩,hb,h⟩:=aa.1 h
    obtain⟨⟨c1,c2⟩,hc,h⟩:=aa.1 h
    split at h
    . split at h
      . exact VC hT ho ha hb hc h
      . exact Qz hT ho ha hb hc h
    . split at h
      . exact aap hT ho ha hb hc h
      . exact ok_slice hT ho ha hb hc h
  . cases h
 case h_20 ho=>
  obtain⟨ec,hec,h⟩:=aa.1 h
  obtain⟨ei,hei,h⟩:=aa.1 h
  exact Mt hT ho hec hei h
 case h_21 ho=>
  split at h
  . split at h
    . rename_i i hi
      exact Su hT ho hi h
    . split at h
      . rename_i i hi
        exact Qt hT ho hi h
      . obtain⟨i,hi,h⟩:=aa.1 h
        exact Qv hT ho hi h
  . cases h
 case h_22 ho=>
  split at h
  . split at h
    . exact VB hT ho h
    . split at h
      . exact XT hT ho h
      . exact Sr hT ho h
    . exact Ss hT ho h
  . cases h
 case h_23 ho=>split at h;exact Qx hT ho h;cases h
 case h_24 ho=>split at h;exact Mu hT ho h;cases h
 case h_25 ho=>
  split at h
  . split at h
    . exact OL hT ho h
    . split at h
      . exact aan hT ho h
      . cases h
    . exact T4 hT (.inl ho) h
  . cases h
 case h_26 ho=>split at h;exact XV hT ho h;cases h
 case h_27 ho=>split at h;exact XQ hT ho h;cases h
 case h_28 ho=>
  split at h
  . rename_i hxy
    obtain⟨n,hn,h⟩:=aa.1 h
    obtain⟨ec,hec,h⟩:=aa.1 h
    obtain⟨ei,hei,h⟩:=aa.1 h
    split at h
    . rename_i h1 hA
      obtain⟨z,hz,h⟩:=aa.1 h
      obtain⟨u,hu,h⟩:=aa.1 h
      exact OJ hT ho hxy hn hec hei h1 hA hz hu h
    . cases h
  . cases h
 case h_29 c ho=>
  split at h
  . rename_i b hb
    obtain⟨ce,ca,cts⟩:=c
    simp only at hb
    subst hb
    split at h
    . split at h
      . rename_i t ht
        obtain⟨x,hx⟩:=OM rfl ho hl rfl
        simp only at hx ht
        subst hx
        have:cts= #[t]:=by apply Array.ext';simpa using ht
        subst this
        exact ack hT ho h
      . cases h
    . split at h
      . rename_i t t' ht
        split at h
        . rename_i he
          obtain rfl:=ah he
          obtain⟨x,y,hx⟩:=AY rfl ho hl rfl
          simp only at hx ht
          subst hx
          have:cts= #[t,t]:=by apply Array.ext';simpa using ht
          subst this
          split at h
          . exact So hT ho h
          . exact Vz hT ho h
        . obtain⟨x,y,hx⟩:=AY rfl ho hl rfl
          simp only at hx ht
          subst hx
          have:cts= #[t,t']:=by apply Array.ext';simpa using ht
          subst this
          exact Sp hT ho h
      . cases h
    . split at h
      . rename_i t t' ht
        obtain⟨x,y,hx⟩:=AY rfl ho hl rfl
        simp only at hx ht
        subst hx
        have:cts= #[t,t']:=by apply Array.ext';simpa using ht
        subst this
        exact aam hT ho h
      . cases h
    . split at h
      . rename_i t ht
        obtain⟨x,hx⟩:=OM rfl ho hl rfl
        simp only at hx ht
        subst hx
        have:cts= #[t]:=by apply Array.ext';simpa using ht
        subst this
        exact XO hT ho h
      . cases h
    . split at h
      . rename_i t t' ht
        obtain⟨x,y,hx⟩:=AY rfl ho hl rfl
        simp only at hx ht
        subst hx
        have:cts= #[t,t']:=by apply Array.ext';simpa using ht
        subst this
        exact VA hT ho h
      . cases h
    . split at h
      . rename_i t ht
        obtain⟨ec,hec,h1⟩:=aa.1 h
        obtain⟨x,hx⟩:=OM rfl ho hl rfl
        simp only at hx ht
        subst hx
        have:cts= #[t]:=by apply Array.ext';simpa using ht
        subst this
        exact acj hT ho hec h1
      . cases h
    . obtain⟨p,hp,h⟩:=aa.1 h
      obtain⟨q,hq,h⟩:=aa.1 h
      split at h
      . rename_i hk _
        obtain⟨x,y,hx⟩:=AY rfl ho hl rfl
        simp only at hx
        subst hx
        exact acn ho hp hq h hk
      . cases h
    . obtain⟨p,hp,h⟩:=aa.1 h
      obtain⟨q,hq,h⟩:=aa.1 h
      split at h
      . rename_i hk _
        obtain⟨x,y,hx⟩:=AY rfl ho hl rfl
        simp only at hx
        subst hx
        exact acm ho hp hq h hk
      . cases h
    . cases h
  . rename_i y hy
    obtain⟨ce,ca,cts⟩:=c
    simp only at hy
    subst hy
    split at h
    . split at h
      . rename_i hb
        exact aak hΦ ho (ay hb) h
      . cases h
    . obtain⟨a,_,h⟩:=aa.1 h
      split at h
      . exact XX hΦ ho h
      . cases h
    . cases h
  . cases h
 case h_30 ho=>split at h;exact T4 hT (.inr ho) h;cases h
 case h_31=>cases h
theorem ZN{v:CV S}{k:Bool->Option γ}{δ:Type}{j:Bool->Option δ}{f:δ->Option γ}(h:∀b,k b=(j b).bind f):ifB v k=(ifB v j).bind f:=by
 unfold ifB;split
 . exact h _
 . split<;>exact h _
 . rfl
theorem bind_eq{α β:Type}{x:Option α}{f g:α->Option β}(h:∀a,f a=g a):x.bind f=x.bind g:=by cases x;rfl;exact h _
theorem aaW{op:UnOp}{v:CV S}:unK op v k=(unK op v some).bind k:=by
 unfold unK;(repeat' (first|rfl|(simp only[aH,ae,aU])|(refine bind_eq fun _=>?_)|split))
theorem RV{f:TypeId×Nat×Nat}{v:CV S}:ES f v k=(ES f v some).bind k:=by
 unfold ES;(repeat' (first|rfl|(simp only[aH,ae,aU])|(refine bind_eq fun _=>?_)|split))
theorem UW{s d:TypeId}{v:CV S}:MH tt s d v ob k=(MH tt s d v ob some).bind k:=by
 unfold MH;(repeat' (first|rfl|(simp only[aH,ae,aU])|(refine bind_eq fun _=>?_)|split))
theorem Xl{t:TypeId}{v:CV S}:Vj tt t v ob k=(Vj tt t v ob some).bind k:=by
 unfold Vj;(repeat' (first|rfl|(simp only[aH,ae,aU])|(refine bind_eq fun _=>?_)|split))
theorem PB{t:TypeId}{v w:CV S}:Dd tt fa t v w ob ct k=(Dd tt fa t v w ob ct some).bind k:=by
 unfold Dd;(repeat' (first|rfl|(simp only[aH,ae,aU])|(refine bind_eq fun _=>?_)|split))
theorem NS{t tx:TypeId}{v w:CV S}:Ag tb tt t tx v w ob ct k=(Ag tb tt t tx v w ob ct some).bind k:=by
 unfold Ag;(repeat' (first|rfl|(simp only[aH,ae,aU])|(refine bind_eq fun _=>?_)|split))
theorem LQ{t:TypeId}{v:CV S}{a b c:Option Int}:E3 tt t v a b c ob ct k=(E3 tt t v a b c ob ct some).bind k:=by
 unfold E3;(repeat' (first|rfl|(simp only[aH,ae,aU])|(refine bind_eq fun _=>?_)|split))
theorem RN{t:TypeId}{v:CV S}:Hr tb tt t v ob k=(Hr tb tt t v ob some).bind k:=by
 unfold Hr;(repeat' (first|rfl|(simp only[aH,ae,aU])|(refine bind_eq fun _=>?_)|split))
theorem NR{t:TypeId}{q:Nat}{d:Co}{l:List (T S d)}{o off n:Nat}{i j:Int}:Af tt t q d l o off n i j ob ct k=(Af tt t q d l o off n i j ob ct some).bind k:=by
 unfold Af;(repeat' (first|rfl|(simp only[aH,ae,aU])|(refine bind_eq fun _=>?_)|split))
theorem QV{t:TypeId}{o off:Nat}{lo hi mx:Option Int}:DA tt t o off lo hi mx ob k=(DA tt t o off lo hi mx ob some).bind k:=by
 unfold DA;(repeat' (first|rfl|(simp only[aH,ae,aU])|(refine bind_eq fun _=>?_)|split))
theorem VE{t:TypeId}{v:CV S}{a b c:Option Int}:Nl tt t v a b c ob ct k=(Nl tt t v a b c ob ct some).bind k:=by
 unfold Nl;split
 . (repeat' (first|rfl|(simp only[aH,ae,aU])|(refine bind_eq fun _=>?_)|split))
 . exact LQ
theorem QW{t:TypeId}{o off:Nat}{a b c:Option Int}:DB tt t o off a b c k=(DB tt t o off a b c some).bind k:=by
 unfold DB;(repeat' (first|rfl|(simp only[aH,ae,aU])|(refine bind_eq fun _=>?_)|split))
theorem UX{t:TypeId}{v w:CV S}:MJ tt t v w ob k=(MJ tt t v w ob some).bind k:=by
 unfold MJ N6;(repeat' (first|rfl|(simp only[aH,ae,aU])|(refine bind_eq fun _=>?_)|split))
theorem R7{t:TypeId}{y:Operand}{v:CV S}{i:Int}:HN tt t y v i ob k=(HN tt t y v i ob some).bind k:=by
 unfold HN;(repeat' (first|rfl|(simp only[aH,ae,aU])|(refine bind_eq fun _=>?_)|split))
theorem Vm{t:TypeId}{v:CV S}:M7 tb tt t v ob k=(M7 tb tt t v ob some).bind k:=by
 unfold M7 Dr;(repeat' (first|rfl|(simp only[aH,ae,aU])|(refine bind_eq fun _=>?_)|split))
theorem SP{t:TypeId}{p:CV S}{a:AV S}:Ip tb tt t p a ob k=(Ip tb tt t p a ob some).bind k:=by
 unfold Ip;(repeat' (first|rfl|(simp only[aH,ae,aU])|(refine bind_eq fun _=>?_)|split))
theorem XK{op:BinOp}{kv kw:IntKind}{x z:Int}{y:Operand}{k:CV S->Option γ}{δ:Type}{j:CV S->Option δ}{f:δ->Option γ}(h:∀v,k v=(j v).bind f):Vx op kv kw x z y k=(Vx op kv kw x z y j).bind f:=by
 unfold Vx;simp only[h];(repeat' (first|rfl|(simp only[aH,ae,aU])|(refine bind_eq fun _=>?_)|split))
theorem Ts{op:BinOp}{t:TypeId}{a b:AV S}{k:CV S->Option γ}{δ:Type}{j:CV S->Option δ}{f:δ->Option γ}(h:∀v,k v=(j v).bind f):eqK tt op t a b k=(eqK tt op t a b j).bind f:=by
 unfold eqK yn;simp only[h];(repeat' (first|rfl|(simp only[aH,ae,aU])|(refine bind_eq fun _=>?_)|split))
theorem WK{op:BinOp}{t:TypeId}{y:Operand}{a b:AV S}{k:CV S->Option γ}{δ:Type}{j:CV S->Option δ}{f:δ->Option γ}(h:∀v,k v=(j v).bind f):UM tt op t y a b k=(UM tt op t y a b j).bind f:=by
 unfold UM;split
 . split
   . exact XK h
   . exact Ts h
 . exact Ts h
theorem PA{δ:Type}{f:δ->Option γ}:∀{os:List Out} {y:q9 S os} {k:(o:Out)->HT S o.Bo->Option γ} {j:(o:Out)->HT S o.Bo->Option δ},(∀o z,k o z=(j o z).bind f)->Zm os y k=(Zm os y j).bind f
 |[],_,_,_,_=>rfl
 |[o],y,_,_,h=>h o y
 |o::_::_,Sum.inl z,_,_,h=>h o z
 |_::p::os,Sum.inr _,_,_,h=>PA (os:=p::os) h
theorem xX{f:FuncId}{args:List (AV S)}:∀{Φ:List (cV S)},zi tb f args ob ct k Φ=(zi tb f args ob ct some Φ).bind k
 |[]=>rfl
 |c::cs=>by
  simp only[zi];split
  . exact xX
  . split
    . exact xX
    . rw[aH];refine bind_eq fun y=>PA fun o z=>?_
      split
      . rfl
      . rfl
theorem Vn{t:TypeId}{v:CV S}{key:AV S}{c:Bool}:M8 tb tt t v key c ob k=(M8 tb tt t v key c ob some).bind k:=by
 unfold M8;(repeat' (first|rfl|(simp only[aH,ae,aU])|(refine bind_eq fun _=>?_)|split))
theorem X5{t:TypeId}{v:CV S}{key w:AV S}:VJ tb tt t v key w ob k=(VJ tb tt t v key w ob some).bind k:=by
 unfold VJ;(repeat' (first|rfl|(simp only[aH,ae,aU])|(refine bind_eq fun _=>?_)|split))
theorem WU{t:TypeId}{v:CV S}{key:AV S}:U0 tb tt t v key ob k=(U0 tb tt t v key ob some).bind k:=by
 unfold U0;(repeat' (first|rfl|(simp only[aH,ae,aU])|(refine bind_eq fun _=>?_)|split))
theorem RZ{t:TypeId}{v:CV S}{key:AV S}{c:Bool}:HC tb tt t v key c ob k=(HC tb tt t v key c ob some).bind k:=by
 unfold HC;(repeat' (first|rfl|(simp only[aH,ae,aU])|(refine bind_eq fun _=>?_)|split))
theorem Vr{t:TypeId}{v:CV S}{key:AV S}:Nc tb tt t v key ob ct k=(Nc tb tt t v key ob ct some).bind k:=by
 unfold Nc;(repeat' (first|rfl|(simp only[aH,ae,aU])|(refine bind_eq fun _=>?_)|split))
theorem Sy{t:TypeId}{v:CV S}:H4 tb tt t v ob ct k=(H4 tb tt t v ob ct some).bind k:=by
 unfold H4;(repeat' (first|rfl|(simp only[aH,ae,aU])|(refine bind_eq fun _=>?_)|split))
theorem RR{v:CV S}:Hv tb tt v ob k=(Hv tb tt v ob some).bind k:=by
 unfold Hv;(repeat' (first|rfl|(simp only[aH,ae,aU])|(refine bind_eq fun _=>?_)|split))
theorem WY{t:TypeId}{v s:CV S}{w:AV S}:U5 tb tt t v s w ob k=(U5 tb tt t v s w ob some).bind k:=by
 unfold U5;(repeat' (first|rfl|(simp only[aH,ae,aU])|(refine bind_eq fun _=>?_)|split))
theorem R3{t:TypeId}{v:CV S}{key:AV S}{c:Bool}:HJ tb tt t v key c ob ct k=(HJ tb tt t v key c ob ct some).bind k:=by
 unfold HJ;(repeat' (first|rfl|(simp only[aH,ae,aU])|(refine bind_eq fun _=>?_)|split))
theorem Vd{t:TypeId}{v w:CV S}{key:AV S}:MU tb tt t v key w ob k=(MU tb tt t v key w ob some).bind k:=by
 unfold MU TE;(repeat' (first|rfl|(simp only[aH,ae,aU])|(refine bind_eq fun _=>?_)|split))
theorem M6{t:TypeId}{v:CV S}{key w:AV S}:K5 tb tt t v key w ob k=(K5 tb tt t v key w ob some).bind k:=by
 unfold K5;(repeat' (first|rfl|(simp only[aH,ae,aU])|(refine bind_eq fun _=>?_)|split))
theorem M3{q:Nat}{c:Co}{x:T S c}:∀{l:List (T S c×CV S)},K4 tb q c x k l=(K4 tb q c x some l).bind k
 |[]=>rfl
 |p::l=>by
  unfold K4;split
  . rfl
  . exact M3
theorem Sa{t:TypeId}{v:CV S}{key:AV S}{c:Bool}:HQ tb tt t v key c ob k=(HQ tb tt t v key c ob some).bind k:=by
 unfold HQ;(repeat' (first|rfl|exact M3|(simp only[aH,ae,aU])|(refine bind_eq fun _=>?_)|split))
theorem FO:core tb tt Φ fa o xs ob ct k=(core tb tt Φ fa o xs ob ct some).bind k:=by
 unfold core;split
 case h_3=>
  split
  . exact ZN fun b=>by cases b<;>rfl
  . rfl
 case h_6=>
  split
  . exact WK fun v=>rfl
  . rfl
 case h_7=>split;exact aaW;rfl
 case h_8=>split;exact UW;rfl
 case h_9=>
  split
  . rw[aH]
    refine bind_eq fun ti=>?_
    split
    . rw[aH];exact bind_eq fun f=>RV
    . rfl
  . rfl
 case h_15=>split;exact Vm;rfl
 case h_16=>split;exact SP;rfl
 case h_17=>split;(rw[aH];exact bind_eq fun i=>R7);rfl
 case h_19=>split;(simp only[aH];exact bind_eq fun a=>bind_eq fun b=>bind_eq fun c=>by split;split;exact QV;exact QW;split;exact VE;exact LQ);rfl
 case h_22=>
  split
  . split
    . exact Vn
    . split
      . exact R3
      . exact RZ
    . exact Sa
  . rfl
 case h_23=>split;exact Vr;rfl
 case h_24=>split;exact WY;rfl
 case h_25=>
  split
  . split
    . exact X5
    . split
      . exact Vd
      . rfl
    . exact M6
  . rfl
 case h_26=>split;exact Sy;rfl
 case h_27=>split;exact RR;rfl
 case h_29=>
  split
  . split
    . split;exact Xl;rfl
    . split
      . split
        . split;exact NR;exact PB
        . exact NS
      . rfl
    . split;exact UX;rfl
    . split;exact RN;rfl
    . split;exact WU;rfl
    . split
      . rw[aH];exact bind_eq fun _=>rfl
      . rfl
    . (repeat' (first|rfl|(simp only[aH,ae,aU])|(refine bind_eq fun _=>?_)|split))
    . (repeat' (first|rfl|(simp only[aH,ae,aU])|(refine bind_eq fun _=>?_)|split))
    . rfl
  . split
    . split;exact xX;rfl
    . rw[aH]
      refine bind_eq fun a=>?_
      split
      . exact xX
      . rfl
    . rfl
  . rfl
 case h_30=>split;exact M6;rfl
 all_goals (repeat' (first|rfl|(simp only[aH,ae,aU])|(refine bind_eq fun _=>?_)|split))
end E
end
section
open Go.RowKit G
namespace E
variable {S:Nat->Type}{tb:Tb S}{K:jy tb}{P:Program}{tt:TypeId->Option (TI S)}{g:GG S}{m:Mem}
structure Cx where
 d:List Deferred
 X:List ck
structure Inv(K:jy tb)(n:Nat)(ds:Cx)(B:List Nat)(m0:Mem)(rb:Nat->Option Gh)(σ:AS S)(g:GG S)(a:Act)(m:Mem)(L:List ck):Prop where
 size:a.tmps.size=n
 defers:a.defers=ds.d
 at_:∀t cJ v,look (σ.fb+t) σ.tm=some (cJ,v)->g.vv cJ=some (a.eval (.tmp t))
 tm:∀s cJ v,look s σ.tm=some (cJ,v)->∃u,g.vv cJ=some u/\cg K g m v u
 ob:lu K g m σ.ob L
 st:St B m0 m (L++ds.X)
 fresh:∀i,σ.ct<=i->g.bk i=none/\g.vv i=none/\g.oo i=none
 rt:K.B m0/\∀(j q:Nat),σ.rt[j]?=some q->∃h,rb j=some h/\g.bk q=some h
theorem KL{v:Value}{c:CV S}(h:JD v=some c):b6 K g m c [v]:=by
 unfold JD at h;split at h<;>first|(cases h;done)|skip
 . split at h
   . rename_i n hn _;cases h;simp only[b6];rw[AZ,hn]
   . cases h
 all_goals (cases h;simp only[b6])
theorem Ck:∀{vs:List Value} {cs:List (CV S)},Ao vs=some cs->dX K g m cs vs
 |[],cs,h=>by simp only[Ao,al]at h;subst h;rfl
 |v::vs,cs,h=>by
  simp only[Ao]at h;obtain⟨x,hx,h⟩:=aa.1 h;obtain⟨r,hr,rfl⟩:=af.1 h;exact⟨[v],vs,rfl,KL hx,Ck hr⟩
theorem abN{v w:Value}(h:eqV v w=true):v=w:=by
 unfold eqV at h;split at h<;>first|rfl|(cases h;done)|skip
 . simp only[aq,ax]at h;obtain⟨rfl,rfl⟩:=h;rfl
 . simp only[beq_iff_eq]at h;subst h;rfl
 . rename_i s s';simp only[ax]at h;obtain⟨⟨l⟩⟩:=s;obtain⟨⟨l'⟩⟩:=s';simp only at h;subst h;rfl
theorem Tw:∀{vs ws:List Value},U4 vs ws=true->vs=ws
 |[],[],_=>rfl
 |[],_::_,h=>by simp[U4]at h
 |_::_,[],h=>by simp[U4]at h
 |v::vs,w::ws,h=>by
  simp only[U4]at h;split at h
  . rename_i hv;rw[abN hv,Tw h]
  . cases h
theorem KJ(hT:gu P K tt){t:TypeId}{v:Value}{x:AV S}(h:N5 tt t v=some x):cg K g m x v:=by
 unfold N5 at h;split at h
 . rename_i cs;split at h
   . rename_i i hi;split at h
     . rename_i he;cases h;simp only[cg];refine⟨cs.toList,by simp,?_⟩;rw[<- Tw he];exact tZ (hT.ty t i hi).Zz
     . obtain⟨l,hl,rfl⟩:=af.1 h;simp only[cg];exact⟨cs.toList,by simp,Ck hl⟩
   . obtain⟨l,hl,rfl⟩:=af.1 h;simp only[cg];exact⟨cs.toList,by simp,Ck hl⟩
 . rename_i vs;split at h
   . rename_i hv;cases h;simp only[AV.ux,cg,fP];exact⟨[],by rw[<- hv],rfl⟩
   . cases h
 . obtain⟨l,hl,rfl⟩:=af.1 h;simp only[cg];exact KL hl
section
variable {n:Nat}{ds:Cx}{B:List Nat}{m0:Mem}{rb:Nat->Option Gh}{σ:AS S}{a:Act}{L:List ck}
theorem Inv.slot(hI:Inv K n ds B m0 rb σ g a m L){t:Tmp}{cJ:Nat}{v:AV S}(h:σ.get t=some (cJ,v)):g.vv cJ=some (a.eval (.tmp t))/\cg K g m v (a.eval (.tmp t)):=by
 have h1:=hI.at_ _ _ _ h;obtain⟨u,h2,h3⟩:=hI.tm _ _ _ h;rw[h1]at h2;cases h2;exact⟨h1,h3⟩
theorem Lk(hT:gu P K tt)(hI:Inv K n ds B m0 rb σ g a m L){t:TypeId}{x:Operand}{v:AV S}(h:zx tt σ t x=some v):cg K g m v (a.eval x):=by
 cases x with
 |tmp u=>
  simp only[zx]at h
  obtain⟨⟨cJ,v'⟩,hp,rfl⟩:=af.1 h
  exact(hI.slot hp).2
 |const c=>exact KJ hT h
 |func f=>
  simp only[zx,al]at h
  subst h
  simp only[cg,b6]
  exact⟨[],[],rfl,by simp only[qw],by simp only[qw]⟩
 |global _=>simp[zx]at h
theorem OO(hT:gu P K tt)(hI:Inv K n ds B m0 rb σ g a m L):∀{l:List Operand} {ts:List TypeId} {xs:List (AV S)},AE tt σ ts l=some xs->zc K g m a l xs/\xs.length=l.length
 |[],ts,xs,h=>by simp only[AE,al]at h;subst h;exact⟨rfl,rfl⟩
 |x::l,[],xs,h=>by
  simp only[AE]at h;obtain⟨v,hv,h⟩:=aa.1 h;obtain⟨r,hr,rfl⟩:=af.1 h;obtain⟨k1,k2⟩:=OO hT hI hr;exact⟨⟨v,r,rfl,Lk hT hI hv,k1⟩,by simp[k2]⟩
 |x::l,t::ts,xs,h=>by
  simp only[AE]at h;obtain⟨v,hv,h⟩:=aa.1 h;obtain⟨r,hr,rfl⟩:=af.1 h;obtain⟨k1,k2⟩:=OO hT hI hr;exact⟨⟨v,r,rfl,Lk hT hI hv,k1⟩,by simp[k2]⟩
theorem Bn{cJ:Nat}{b:Bool}:∀{l:List (Nat×Nat×AV S)} {s:Nat},look s (QR cJ b l)=(look s l).map fun x=>if x.1=cJ then(x.1,.one (.tt b))else x
 |[],s=>rfl
 |(t,v,x)::l,s=>by
  unfold QR;split
  . rename_i e;obtain rfl:=ah e;rw[cb,cb];by_cases h:t=s
    . rw[if_pos h,if_pos h];simp
    . rw[if_neg h,if_neg h];exact Bn
  . rename_i e;have e:v≠cJ:=Nat.ne_of_beq_eq_false e;rw[cb,cb];by_cases h:t=s
    . rw[if_pos h,if_pos h];simp[e]
    . rw[if_neg h,if_neg h];exact Bn
theorem zB(hI:Inv K n ds B m0 rb σ g a m L){cJ:Nat}{b:Bool}(h:g.vv cJ=some (.bool b)):Inv K n ds B m0 rb (σ.q8 cJ b) g a m L:=by
 have key:∀s vid' v,look s (σ.q8 cJ b).tm=some (vid',v)->∃v0,look s σ.tm=some (vid',v0)/\(v=v0\/vid'=cJ/\v=.one (.tt b)):=fun s vid' v hs=>by
  unfold AS.q8 at hs;rw[Bn]at hs;obtain⟨⟨vid0,v0⟩,h0,h1⟩:=af.1 hs;by_cases e:vid0=cJ
  . rw[if_pos e]at h1;cases h1;exact⟨v0,h0,.inr ⟨e,rfl⟩⟩
  . rw[if_neg e]at h1;cases h1;exact⟨_,h0,.inl rfl⟩
 refine⟨hI.size,hI.defers,fun t vid' v hs=>?_,fun s vid' v hs=>?_,hI.ob,hI.st,hI.fresh,hI.rt⟩
 . obtain⟨v0,h0,_⟩:=key _ _ _ hs;exact hI.at_ _ _ _ h0
 . obtain⟨v0,h0,h1⟩:=key _ _ _ hs;rcases h1 with rfl|⟨rfl,rfl⟩
   . exact hI.tm _ _ _ h0
   . exact⟨_,h,by simp only[cg,b6]⟩
theorem Xj(hI:Inv K n ds B m0 rb σ g a m L)(t:Tmp):Kn n a [(t,a.eval (.tmp t))] ds.d:=⟨hI.size,hI.defers,Ke.cons rfl (Ke.nil a)⟩
theorem Vh{γ:Type}{ops:Array Oper}{o:Oper}{go:Bool->AS S->Option γ}{z:γ}(hI:Inv K n ds B m0 rb σ g a m L)(h:Cs ops o.guard σ go=some z):
 ∃run σ',go run σ'=some z/\Inv K n ds B m0 rb σ' g a m L/\Region.wanted o (yielded ops a.tmps)=run:=by
 cases hg:o.guard with
 |none=>rw[hg]at h;exact⟨true,σ,h,hI,by simp[Region.wanted,hg]⟩
 |some jb=>
  obtain⟨j,b⟩:=jb
  rw[hg]at h
  simp only[Cs]at h
  split at h
  . rename_i cJ v hv
    obtain⟨t,ht,hv⟩:=aa.1 hv
    obtain⟨h1,h2⟩:=hI.slot hv
    simp only[cg]at h2
    have yes:∀c,a.eval (.tmp t)=.bool c->(c == b)=true->Region.wanted o (yielded ops a.tmps)=true:=fun c hc hcb=>
     Iv (Xj hI t) (by simp only[Ct,hg,ht,lk,beq_self_eq_true,Nat.beq_refl,hc];exact hcb)
    have no:∀c,a.eval (.tmp t)=.bool c->(c !=b)=true->Region.wanted o (yielded ops a.tmps)=false:=fun c hc hcb=>
     wP (Xj hI t) (by simp only[Bg,hg,ht,lk,Nat.beq_refl,hc];exact hcb)
    split at h
    . rename_i c _
      simp only[b6,bA,and_true]at h2
      refine⟨_,σ,h,hI,?_⟩
      cases hcb:c == b with
      |true=>exact yes c h2 hcb
      |false=>exact no c h2 (by simp[bne,hcb])
    . rename_i c p d hcp _
      simp only[b6,bA,and_true]at h2
      split at h
      . rename_i hp
        have hc:=hcp.2 hp
        subst hc
        refine⟨_,_,h,zB hI (by rw[h1,h2]),?_⟩
        cases b with
        |true=>exact yes _ h2 rfl
        |false=>exact no _ h2 rfl
      . rename_i hp
        have hc:c=false:=by cases hc:c with|false=>rfl|true=>exact absurd (hcp.1 hc) hp
        subst hc
        refine⟨_,_,h,zB hI (by rw[h1,h2]),?_⟩
        cases b with
        |true=>exact no _ h2 rfl
        |false=>exact yes _ h2 rfl
    . cases h
  . rename_i cJ hv
    obtain⟨t,ht,hv⟩:=aa.1 hv
    obtain⟨h1,h2⟩:=hI.slot hv
    simp only[cg,fP]at h2
    obtain⟨l,h2,rfl⟩:=h2
    refine⟨_,σ,h,hI,wP (Xj hI t) ?_⟩
    simp only[Bg,hg,ht,lk,Nat.beq_refl,h2]
  . cases h
theorem qb{α:Type}:∀{l:List (Nat×α)} {s t:Nat},t≠s->look t (drop1 s l)=look t l
 |[],s,t,_=>rfl
 |(u,x)::l,s,t,h=>by
  unfold drop1;split
  . rename_i e;obtain rfl:=ah e;rw[cb,if_neg (Ne.symm h)]
  . rw[cb,cb,qb h]
theorem X7(hI:Inv K n ds B m0 rb σ g a m L){ob':List (Nat×Nat×AO S)}{L':List ck}{g':GG S}{m':Mem}{d:Option Tmp}{mv:Option Nat}{v:AV S}{u:Value}(hd:∀t,d=some t->t<n)(hge:GE g g')(hle:Le m m')
 (hob:lu K g' m' ob' L') (hst:St B m0 m' (L'++ds.X)) (hv:cg K g' m' v u) (hvid:g'.vv (mv.getD σ.ct)=some u) (hf:∀i,σ.ct+64<=i->g'.bk i=none/\g'.vv i=none/\g'.oo i=none):
 Inv K n ds B m0 rb {σ.put d mv v with ob:=ob',ct:=σ.ct+64} g' (a.put d u) m' L':=by
 have old:∀s cJ x,look s σ.tm=some (cJ,x)->∃y,g'.vv cJ=some y/\cg K g' m' x y:=fun s cJ x hs=>by
  obtain⟨y,h1,h2⟩:=hI.tm _ _ _ hs;exact⟨y,hge.vv _ _ h1,h2.mono hge hle⟩
 have hrt:K.B m0/\∀(j q:Nat),σ.rt[j]?=some q->∃h,rb j=some h/\g'.bk q=some h:=⟨hI.rt.1,fun j q hj=>by
  obtain⟨h,h1,h2⟩:=hI.rt.2 j q hj;exact⟨h,h1,hge.bk _ _ h2⟩⟩
 cases d with
 |none=>exact⟨hI.size,hI.defers,fun t cJ x hs=>hge.vv _ _ (hI.at_ t cJ x hs),old,hob,hst,hf,hrt⟩
 |some d=>
  have hdn:=hd d rfl
  refine⟨by simp[Act.put,hI.size],hI.defers,fun t cJ x hs=>?_,fun s cJ x hs=>?_,hob,hst,hf,hrt⟩
  . have hs':look (σ.fb+t) ((σ.fb+d,mv.getD σ.ct,v)::drop1 (σ.fb+d) σ.tm)=some (cJ,x):=hs
    rw[cb]at hs'
    by_cases e:σ.fb+d=σ.fb+t
    . rw[if_pos e]at hs'
      cases hs'
      have e:d=t:=Nat.add_left_cancel e
      subst e
      rw[D.qK (by rw[hI.size];exact hdn)]
      exact hvid
    . rw[if_neg e,qb (Ne.symm e)]at hs'
      rw[Act.eval_put (fun d' hd' e'=>by cases hd';cases e';exact e rfl)]
      exact hge.vv _ _ (hI.at_ _ _ _ hs')
  . have hs':look s ((σ.fb+d,mv.getD σ.ct,v)::drop1 (σ.fb+d) σ.tm)=some (cJ,x):=hs
    rw[cb]at hs'
    by_cases e:σ.fb+d=s
    . rw[if_pos e]at hs'
      cases hs'
      exact⟨u,hvid,hv⟩
    . rw[if_neg e,qb (Ne.symm e)]at hs'
      exact old _ _ _ hs'
end
abbrev ZL(S:Nat->Type):=List ((Nat×Nat×AO S)×ck)
def zR(K:jy tb)(g:GG S)(m:Mem)(p:(Nat×Nat×AO S)×ck):Prop:=g.oo p.1.2.1=some (p.1.2.2,p.2)/\xf K g m p.1.1 p.1.2.2 p.2
theorem zw:∀{ob:List (Nat×Nat×AO S)} {L:List ck},lu K g m ob L->∃z:ZL S,z.map Prod.fst=ob/\z.map Prod.snd=L/\∀p∈z,zR K g m p
 |[],L,h=>⟨[],rfl,h.symm,fun p hp=>by cases hp⟩
 |x::ob,L,h=>by
  obtain⟨e,L',rfl,h1,h2,h3⟩:=h;obtain⟨z,rfl,rfl,k⟩:=zw h3;exact⟨(x,e)::z,rfl,rfl,fun p hp=>by
   rcases aV.1 hp with rfl|hp
   . exact⟨h1,h2⟩
   . exact k p hp⟩
theorem xR:∀{z:ZL S},(∀p∈z,zR K g m p)->lu K g m (z.map Prod.fst) (z.map Prod.snd)
 |[],_=>rfl
 |p::z,h=>⟨p.2,_,rfl,(h p ar).1,(h p ar).2,xR fun q hq=>h q (aD _ hq)⟩
def zu(z:ZL S)(q:Nat):Option ((Nat×Nat×AO S)×ck):=z.find? fun p=>Nat.beq p.1.1 q
def jv(z:ZL S)(l:List Nat):ZL S:=l.filterMap (zu z)
theorem xZ{q:Nat}:∀{z:ZL S},look q (z.map Prod.fst)=(zu z q).map (·.1.2)
 |[]=>rfl
 |((u,x),e)::z=>by
  simp only[aO,cb,zu,List.find?_cons];by_cases h:u=q
  . subst h;simp
  . rw[if_neg h,wR h];exact xZ
theorem n9{q:Nat}{z:ZL S}{p:(Nat×Nat×AO S)×ck}(h:zu z q=some p):p∈z/\p.1.1=q:=
 ⟨List.mem_of_find?_eq_some h,ah (by have:=List.find?_some (p:=fun p:(Nat×Nat×AO S)×ck=>Nat.beq p.1.1 q) h;exact this)⟩
theorem vM{z:ZL S}:∀{l:List Nat},(jv z l).map Prod.fst=pick (z.map Prod.fst) l
 |[]=>rfl
 |q::l=>by
  simp only[jv,List.filterMap_cons,pick,xZ]
  cases h:zu z q with
  |none=>exact vM
  |some p=>
   obtain⟨_,rfl⟩:=n9 h
   simp only[aO,ba]
   rw[<- vM];rfl
theorem Gf{f:Nat->Bool}{q:Nat}(hq:f q=true):∀{z:ZL S},zu (z.filter fun p=>f p.1.1) q=zu z q
 |[]=>rfl
 |p::z=>by
  by_cases h:p.1.1=q
  . rw[List.filter_cons_of_pos (by rw[h];exact hq)];simp[zu,h]
  . have hb:Nat.beq p.1.1 q=false:=wR h;have ih:=Gf hq (z:=z)
    cases hf:f p.1.1 with
    |true=>rw[List.filter_cons_of_pos (p:=fun p:(Nat×Nat×AO S)×ck=>f p.1.1) hf];simp only[zu,List.find?_cons,hb];exact ih
    |false=>rw[List.filter_cons_of_neg (p:=fun p:(Nat×Nat×AO S)×ck=>f p.1.1) (by simp[hf])];simp only[zu,List.find?_cons,hb]at ih ⊢; exact ih
theorem xJ{f:Nat->Bool}{z:ZL S}:∀{l:List Nat},(∀q∈l,f q=true)->jv (z.filter fun p=>f p.1.1) l=jv z l
 |[],_=>rfl
 |q::l,h=>by
  have ih:=xJ (z:=z) fun q hq=>h q (aD _ hq)
  simp only[jv,List.filterMap_cons,Gf (h q ar)]at ih ⊢;rw[ih]
theorem vN:∀{l:List Nat} {z:ZL S},l.Nodup->∃Y,List.Perm z (jv z l++Y)
 |[],z,_=>⟨z,List.Perm.refl _⟩
 |q::l,z,h=>by
  obtain⟨hq,hl⟩:=List.nodup_cons.1 h;have hf:∀r∈l,(!Nat.beq r q)=true:=fun r hr=>by
   rw[wR fun e=>hq (by rw[<- e];exact hr)];rfl
  obtain⟨Y,hY⟩:=vN (z:=z.filter fun p=>!Nat.beq p.1.1 q) hl;rw[xJ hf]at hY;have hz:List.Perm z (z.filter (fun p=>Nat.beq p.1.1 q)++z.filter fun p=>!Nat.beq p.1.1 q):=(List.filter_append_perm _ _).symm;simp only[jv,List.filterMap_cons]at hY ⊢
  cases hk:zu z q with
  |none=>exact⟨z.filter (fun p=>Nat.beq p.1.1 q)++Y,hz.trans ((br _ hY).trans (by
   rw[<- aA,<- aA];exact List.Perm.append_right _ aW))⟩
  |some p=>
   obtain⟨h1,h2⟩:=n9 hk
   have hm:p∈z.filter fun p=>Nat.beq p.1.1 q:=aR.2 ⟨h1,by rw[h2];exact Nat.beq_refl q⟩
   obtain⟨A,B,hAB⟩:=List.append_of_mem hm
   rw[hAB]at hz
   refine⟨A++B++Y,hz.trans (((List.perm_middle (l₁:=A) (l₂:=B) (a:=p)).append hY).trans ?_)⟩
   simp only[bD]
   refine List.Perm.cons p ?_
   rw[<- aA,<- aA]
   exact List.Perm.append_right _ aW
theorem Cm{rm:List Nat}:∀{ob:List (Nat×Nat×AO S)},gW rm ob=ob.filter fun x=>!has x.1 rm
 |[]=>rfl
 |(q,x)::l=>by
  unfold gW;split
  . rename_i h;rw[List.filter_cons_of_neg (by simp[h])];exact Cm
  . rename_i h;rw[List.filter_cons_of_pos (by simp[h]),Cm]
theorem Gj{ob:List (Nat×Nat×AO S)}{L:List ck}{rd rm:List Nat}(h:lu K g m ob L)(hn:(rd++rm).Nodup):∃Lr Lm Lz R Y,lu K g m (pick ob rd) Lr/\lu K g m (pick ob rm) Lm/\lu K g m (gW rm ob) Lz/\List.Perm L ((Lr++Lm)++R)/\List.Perm (Lr++R) (Lz++Y):=by
 obtain⟨z,rfl,rfl,hz⟩:=zw h;obtain⟨n1,n2,n3⟩:=List.nodup_append.1 hn;have hp:List.Perm z (z.filter (fun p=>has p.1.1 rm)++z.filter fun p=>!has p.1.1 rm):=(List.filter_append_perm _ _).symm;obtain⟨Y1,hY1⟩:=vN (z:=z.filter fun p=>has p.1.1 rm) n2;obtain⟨Y2,hY2⟩:=vN (z:=z.filter fun p=>!has p.1.1 rm) n1;rw[xJ (f:=fun q=>has q rm) fun q hq=>sa.2 hq]at hY1;rw[xJ (f:=fun q=>!has q rm) fun q hq=>by
  cases hh:has q rm with
  |false=>rfl
  |true=>exact absurd rfl (n3 q hq q (sa.1 hh))]at hY2
 have mem:∀l,∀p∈jv z l,zR K g m p:=fun l p hp=>by
  obtain⟨q,_,hq⟩:=List.mem_filterMap.1 hp;exact hz p (n9 hq).1
 refine⟨(jv z rd).map Prod.snd,(jv z rm).map Prod.snd,(z.filter fun p=>!has p.1.1 rm).map Prod.snd,(Y1++Y2).map Prod.snd,Y1.map Prod.snd,?_,?_,?_,?_,?_⟩
 . rw[<- vM];exact xR (mem rd)
 . rw[<- vM];exact xR (mem rm)
 . have:gW rm (z.map Prod.fst)=(z.filter fun p=>!has p.1.1 rm).map Prod.fst:=by
    rw[Cm,List.filter_map];rfl
   rw[this];exact xR fun p hp=>hz p (aR.1 hp).1
 . rw[<- aX,<- aX];refine List.Perm.map _ (hp.trans ((hY1.append hY2).trans ?_));have e1:List.Perm (jv z rm++Y1++(jv z rd++Y2)) (jv z rm++jv z rd++(Y1++Y2)):=by
    rw[aA,aA];refine br _ ?_;rw[<- aA,<- aA];exact List.Perm.append_right _ aW
   exact e1.trans (List.Perm.append_right _ aW)
 . rw[<- aX,<- aX];refine List.Perm.map _ ?_;refine List.Perm.trans ?_ (List.Perm.append_right Y1 hY2.symm);rw[aA];exact br _ aW
theorem A2:∀{ob ob':List (Nat×Nat×AO S)} {L L':List ck},lu K g m ob L->lu K g m ob' L'->lu K g m (ob++ob') (L++L')
 |[],ob',L,L',h,h'=>by simp only[lu]at h;subst h;exact h'
 |x::ob,ob',L,L',h,h'=>by
  obtain⟨e,L1,rfl,h1,h2,h3⟩:=h;exact⟨e,L1++L',rfl,h1,h2,A2 h3 h'⟩
theorem NP:∀{l:List (Nat×AO S)} {La:List ck} {v:Nat},JZ K g m l La->(∀i a e,l[i]?=some a->La[i]?=some e->g.oo (v+i)=some (a.2,e))->lu K g m (DH v l) La
 |[],La,v,h,_=>h
 |(q,a)::l,La,v,h,ho=>by
  obtain⟨e,L',rfl,h1,h2⟩:=h;exact⟨e,L',rfl,ho 0 (q,a) e rfl rfl,h1,NP h2 fun i b f hb hf=>by
   have:=ho (i+1) b f (by simpa using hb) (by simpa using hf);rw[<- this];congr 1;omega⟩
theorem J0:∀{l:List (Nat×AO S)} {La:List ck},JZ K g m l La->La.length=l.length
 |[],La,h=>by simp only[JZ]at h;subst h;rfl
 |_::l,La,h=>by
  obtain⟨e,L',rfl,h1,h2⟩:=h;simp[J0 h2]
section
variable {n:Nat}{ds:Cx}{B:List Nat}{m0:Mem}{rb:Nat->Option Gh}{σ:AS S}{a:Act}{L:List ck}
def GG.My(g:GG S)(g':GG S)(ct:Nat)(mv:Option Nat)(v:Value)(add:List (Nat×AO S))(La:List ck):GG S:=
 {bk:=g'.bk,vv:=fun i=>if i=ct/\mv=none then some v else g.vv i,
  oo:=fun i=>if ct+32<=i then(match add[i-(ct+32)]?,La[i-(ct+32)]? with|some a,some e=>some (a.2,e)|_,_=>g.oo i)else g.oo i}
theorem YC{L Lr Lm La Lz R Y X:List ck}{m m':Mem}(h:St B m0 m (L++X))(p1:List.Perm L ((Lr++Lm)++R))(p2:List.Perm (Lr++R) (Lz++Y))(hS:St (bX (Lr++Lm)) m m' (Lr++La)):St B m0 m' ((La++Lz)++X):=by
 have h0:St B m0 m ((Lr++Lm)++(R++X)):=h.perm ((List.Perm.append_right X p1).trans (by rw[aA]));have h1:St B m0 m' ((Lr++La)++(R++X)):=St.frame h0 hS;have h2:List.Perm ((Lr++La)++(R++X)) (((La++Lz)++X)++Y):=by
  have e1:List.Perm ((Lr++La)++(R++X)) (La++((Lr++R)++X)):=by
   refine(List.Perm.append_right _ aW).trans ?_;rw[aA,aA]
  refine e1.trans ?_;refine(br La (List.Perm.append_right X p2)).trans ?_;rw[aA,aA,aA];exact br _ (br _ aW)
 exact(h1.perm h2).qB
theorem O8(hI:Inv K n ds B m0 rb σ g a m L){d:Option Tmp}{mv:Option Nat}{r:sS S}{v:Value}{w':World}{Lr Lm Lz R Y:List ck}(hd:∀t,d=some t->t<n)(JF:r.add.length<=31)
 (hz:lu K g m (gW r.rm σ.ob) Lz) (p1:List.Perm L ((Lr++Lm)++R)) (p2:List.Perm (Lr++R) (Lz++Y)) (hD:Iy K g m σ.ct Lr Lm r v w') (hmv:∀cJ,mv=some cJ->g.vv cJ=some v):
 ∃g' m' L',m'.w=w'/\GE g g'/\Le m m'/\Inv K n ds B m0 rb (σ.My d mv r) g' (a.put d v) m' L':=by
 obtain⟨m',g',La,rfl,hS,hge,hvv,hoo,hbk,hA,hv⟩:=hD
 have hle:=hS.le
 have hfr:=hI.fresh
 have hlA:=J0 hA
 have ge1:GE g' (g.My g' σ.ct mv v r.add La):=⟨fun _ _ h=>h,fun i x hx=>by
  rw[hvv]at hx;show(if _ then _ else _)=_;rw[if_neg fun⟨e,_⟩=>by subst e;rw[(hfr _ (Nat.le_refl _)).2.1]at hx;cases hx];exact hx,fun i x hx=>by
  rw[hoo]at hx;have:i<σ.ct:=Nat.lt_of_not_le fun h=>by rw[(hfr i h).2.2]at hx;cases hx
  show(if _ then _ else _)=_;rw[if_neg (by omega)];exact hx⟩
 have ge2:GE g (g.My g' σ.ct mv v r.add La):=hge.trans ge1
 refine⟨g.My g' σ.ct mv v r.add La,m',La++Lz,rfl,ge2,hle,?_⟩
 refine X7 hI (ob':=DH (σ.ct+32) r.add++gW r.rm σ.ob) hd ge2 hle (A2 (NP (hA.mono ge1 (Le.refl _)) fun i x e hx he=>?_) (hz.mono ge2 hle)) ?_ (hv.mono ge1 (Le.refl _)) ?_ fun i hi=>⟨?_,?_,?_⟩
 . show(if _ then _ else _)=_
   rw[if_pos (by omega),show σ.ct+32+i-(σ.ct+32)=i by omega,hx,he]
 . exact YC hI.st p1 p2 hS
 . cases mv with
   |none=>show(if _ then _ else _)=_;rw[if_pos ⟨rfl,rfl⟩]
   |some cJ=>exact ge2.vv _ _ (hmv cJ rfl)
 . show g'.bk i=none
   refine aN fun hn=>?_
   have h1:=(hfr i (by omega)).1
   have:=hbk i (by rw[h1];exact hn)
   omega
 . show(if _ then _ else _)=_
   rw[if_neg (by omega)];exact(hfr i (by omega)).2.1
 . show(if _ then _ else _)=_
   rw[if_pos (by omega),List.getElem?_eq_none (by omega)]
   exact(hfr i (by omega)).2.2
theorem aaM(hI:Inv K n ds B m0 rb σ g a m L){d:Option Tmp}(hd:∀t,d=some t->t<n):
 ∃g',GE g g'/\Inv K n ds B m0 rb {σ.put d none (AV.ux S)with ct:=σ.ct+64} g' (a.put d undef) m L:=by
 have ge2:GE g {g with vv:=fun i=>if i=σ.ct then some undef else g.vv i}:=⟨fun _ _ h=>h,fun i x hx=>by
  show(if _ then _ else _)=_;rw[if_neg fun e=>by subst e;rw[(hI.fresh _ (by omega)).2.1]at hx;cases hx];exact hx,fun _ _ h=>h⟩
 have hob:(σ.put d none (AV.ux S)).ob=σ.ob:=by cases d<;>rfl
 refine⟨_,ge2,?_⟩
 have:=X7 hI (ob':=σ.ob) (mv:=none) (v:=AV.ux S) (u:=undef) hd ge2 (Le.refl m) (hI.ob.mono ge2 (Le.refl m)) hI.st (by simp only[AV.ux,cg,fP];exact⟨[],rfl,rfl⟩) (if_pos rfl) fun i hi=>⟨(hI.fresh i (by omega)).1,by show(if _ then _ else _)=_;rw[if_neg (by omega)];exact(hI.fresh i (by omega)).2.1,(hI.fresh i (by omega)).2.2⟩
 rw[<- hob]at this
 exact this
theorem bV.exact{o:Oper}{w:World}{c9:Value->World->Prop}{u:Value}(h:bV P o a w c9)(hr:(execOp a.eval o).run P w=.ok (.value u) w):c9 u w:=by
 unfold bV at h;rw[hr]at h;exact h
theorem XB{o:Oper}{cJ:Nat}{w:World}(hI:Inv K n ds B m0 rb σ g a m L)(hm:xe σ o.op=some cJ):∃u,(execOp a.eval o).run P w=.ok (.value u) w/\g.vv cJ=some u:=by
 unfold xe at hm;split at hm
 . rename_i t ho;obtain⟨⟨vid',v⟩,hs,rfl⟩:=af.1 hm;exact⟨a.eval (.tmp t),by simp[execOp,ho],(hI.slot hs).1⟩
 . rename_i t ho;obtain⟨⟨vid',v⟩,hs,rfl⟩:=af.1 hm;exact⟨a.eval (.tmp t),by simp[execOp,ho],(hI.slot hs).1⟩
 . cases hm
theorem aaR(hI:Inv K n ds B m0 rb σ g a m L){o:Oper}{xs:List (AV S)}{r:sS S}(hd:∀t,o.dst=some t->t<n)(hx:zc K g m a o.op.operands.toList xs)(hn:nv (r.rd++r.rm)=true)(hO:DG P K o xs σ.ob σ.ct r):
 bV P o a m.w fun v w'=>∃g' m' L',m'.w=w'/\GE g g'/\Le m m'/\Inv K n ds B m0 rb (σ.My o.dst (xe σ o.op) r) g' (a.put o.dst v) m' L':=by
 obtain⟨Lr,Lm,Lz,R,Y,h1,h2,h3,p1,p2⟩:=Gj hI.ob (qJ hn)
 have hOw:Ow m (Lr++Lm):=(hI.st.ow.left.perm p1).left
 have key:=hO.did g a m Lr Lm (fun i hi _=>hI.fresh i hi) (K.Bm hI.rt.1 hI.st.le) hx h1 h2 hOw
 cases hm:xe σ o.op with
 |none=>exact key.mono fun v w' hD=>O8 hI hd hO.JF h3 p1 p2 hD (fun _ h=>by cases h)
 |some cJ=>
  obtain⟨u,hr,hu⟩:=XB (P:=P) (w:=m.w) hI hm
  have hD:=E.bV.exact key hr
  unfold bV
  rw[hr]
  exact O8 hI hd hO.JF h3 p1 p2 hD (fun _ h=>by cases h;exact hu)
def PU(n:Nat)(o:Oper):Bool:=match o.dst with|some d=>Nat.ble (d+1) n|none=>true
theorem FU{o:Oper}(h:PU n o=true):∀t,o.dst=some t->t<n:=fun t ht=>by
 unfold PU at h;rw[ht]at h;exact ay h
theorem aaf{fa:FA S}(hΨ:∀c∈fa.nd,qL P K c){sq:Bool}{o:Oper}{xs:List (AV S)}{fx:FuncId×List (AV S)}{ob:List (Nat×Nat×AO S)}{ct:Nat}{γ:Type}{k:sS S->Option γ}{z:γ}(h:aae fa sq o xs=some fx)(hk:vK tb fx.1 fx.2 ob ct k fa.nd=some z):
 ∃rd rm:List Nat,(rd++rm).Nodup/\∀(g:GG S) (a:Act) (m:Mem) (Lr Lm:List ck),Fj g ct->K.B m->zc K g m a o.op.operands.toList xs->lu K g m (pick ob rd) Lr->lu K g m (pick ob rm) Lm->Ow m (Lr++Lm)->
  bV P o a m.w fun v w'=>∃res,k res=some z/\res.rd=rd/\res.rm=rm/\res.add.length<=31/\Iy K g m ct Lr Lm res v w':=by
 unfold aae at h
 split at h
 case h_2=>cases h
 case h_1=>
 unfold ads at h
 split at h
 case h_2=>cases h
 case h_1 c ho=>
 obtain⟨cal,ops,ts⟩:=c
 split at h
 case h_2=>cases h
 case h_1 y f first caps args hcal=>
 simp only at hcal
 subst hcal
 split at h
 case h_2=>cases h
 case h_1 hb=>
 cases h
 simp only[aq]at hb
 have hf:=ay hb.2
 have hox:o.op.operands.toList=y::ops.toList:=by rw[ho];simp[Op.operands,Call.operands]
 obtain⟨rd,rm,hnd,h4⟩:=Dw hΨ hk
 refine⟨rd,rm,hnd,fun g a m Lr Lm hF hB ha hR hM hO=>?_⟩
 rw[hox]at ha
 obtain⟨v,vs,e,a1,a2⟩:=ha
 cases e
 simp only[cg,b6]at a1
 obtain⟨v1,v2,e1,a3,a4⟩:=a1
 have key:=h4 g m _ Lr Lm hF hB (wm (wm (xW a3) (De a2)) (xW a4)) hR hM hO
 unfold B5 at key
 rw[if_pos hf]at key
 obtain⟨h3,key⟩:=key
 have hrun:(execOp a.eval o).run P m.w=.ok (.enter f (v1++ops.toList.map a.eval++v2).toArray) m.w:=by
  unfold execOp;have e2:a.eval y=.func (.func f) v1.toArray v2.toArray:=by simpa using e1
  simp only[ho,resolve,e2,Deferred.ofValue,Sem.run_bind,Sem.run_pure,Result.andThen_ok,invoke];rw[h3];congr 2;apply Array.ext';simp
 unfold bV
 rw[hrun]
 exact Calls.mono key fun e w' ⟨v,res,hv,hr⟩=>⟨v,hv,res,hr⟩
theorem FZ(hT:gu P K tt){Φ:List (cV S)}(hΦ:∀c∈Φ,Sound P K c){fa:FA S}(hΨ:∀c∈fa.nd,qL P K c){sq:Bool}{ops:Array Oper}{γ:Type}{z:γ}{Q:Exit->Act->World->Prop}{rr:Option Nat}:∀{rest:List Oper} {i:Nat} {σ:AS S} {lg:Log} {k:AS S->Log->Option γ} {g:GG S} {a:Act} {m:Mem} {L:List ck},
 zm tb tt Φ fa sq ops rest i σ lg k=some z->rest.all (PU n)=true->Inv K n ds B m0 rb σ g a m L->
 (∀σ' lg' g' a' m' L',k σ' lg'=some z->GE g g'->Le m m'->Inv K n ds B m0 rb σ' g' a' m' L'->Q .normal a' m'.w)->wpListIn (FW rr) 0 P ops Q rest a m.w
 |[],i,σ,lg,k,g,a,m,L,h,_,hI,hQ=>by
  simp only[zm]at h;exact hQ σ lg g a m L h (GE.refl g) (Le.refl m) hI
 |o::rest,i,σ,lg,k,g,a,m,L,h,hd,hI,hQ=>by
  simp only[List.all_cons,aq]at hd;simp only[zm]at h;obtain⟨run,σ1,h1,hI1,hw⟩:=Vh hI h;unfold wpListIn
  cases run with
  |false=>
   simp only at h1
   rw[if_neg (by rw[hw];simp)]
   obtain⟨g',hge,hI2⟩:=aaM hI1 (FU hd.1)
   exact⟨fun _ _=>trivial,FZ hT hΦ hΨ h1 hd.2 hI2 fun σ' lg' g2 a' m' L' hk h3 h4 h5=>hQ σ' lg' g2 a' m' L' hk (hge.trans h3) h4 h5⟩
  |true=>
   simp only at h1
   rw[if_pos hw]
   split at h1
   . rename_i xs hxs
     obtain⟨hx,hl⟩:=OO hT hI1 hxs
     split at h1
     . rename_i hnd
       rw[FO]at h1
       obtain⟨r,hr,h2⟩:=aa.1 h1
       obtain⟨r',hr',hO⟩:=Ti hT hΦ hl hr
       cases hr'
       split at h2
       . rename_i hn
         refine(aaR hI1 (FU hd.1) hx hn hO).wp fun v w' ⟨g',m',L',e,h3,h4,h5⟩=>?_
         subst e
         exact FZ hT hΦ hΨ h2 hd.2 h5 fun σ' lg' g2 a' m2 L2 hk h6 h7 h8=>hQ σ' lg' g2 a' m2 L2 hk (h3.trans h6) (h4.trans h7) h8
       . cases h2
     . rename_i fx hnd
       obtain⟨rd,rm,hn,hstep⟩:=aaf hΨ hnd h1
       obtain⟨Lr,Lm,Lz,R,Y,q1,q2,q3,p1,p2⟩:=Gj hI1.ob hn
       have hOw:Ow m (Lr++Lm):=(hI1.st.ow.left.perm p1).left
       refine(hstep g a m Lr Lm (fun i hi _=>hI1.fresh i hi) (K.Bm hI1.rt.1 hI1.st.le) hx q1 q2 hOw).wp fun v w' ⟨res,hk2,e1,e2,hfew,hD⟩=>?_
       subst e1;subst e2
       obtain⟨g',m',L',e,h3,h4,h5⟩:=O8 hI1 (mv:=none) (FU hd.1) hfew q3 p1 p2 hD (fun _ h=>by cases h)
       subst e
       exact FZ hT hΦ hΨ hk2 hd.2 h5 fun σ' lg' g2 a' m2 L2 hk h6 h7 h8=>hQ σ' lg' g2 a' m2 L2 hk (h3.trans h6) (h4.trans h7) h8
   . cases h1
end
end E
end
section
open Go.RowKit G
namespace E
variable {S:Nat->Type}{tb:Tb S}{K:jy tb}{g:GG S}{m:Mem}
section
variable {n:Nat}{ds:Cx}{B:List Nat}{m0:Mem}{rb:Nat->Option Gh}{σ σ1:AS S}{a:Act}{L:List ck}
theorem xA{q:Nat}{ver:Nat}{ao:AO S}{X:List ck}(hob:lu K g m σ.ob L)(hl:look q σ.ob=some (ver,ao)):∃e L0 R,xf K g m q ao e/\List.Perm L (e::(L0++R))/\lu K g m (gW [q] σ.ob) L0:=by
 obtain⟨z,hz1,hz2,hz3⟩:=zw hob;rw[<- hz1,xZ]at hl;obtain⟨p,hp1,hp2⟩:=af.1 hl;obtain⟨hp3,hp4⟩:=n9 hp1;have hp5:=(hz3 p hp3).2;rw[hp2,hp4]at hp5;have hperm:List.Perm z (z.filter (fun p=>has p.1.1 [q])++z.filter fun p=>!has p.1.1 [q]):=(List.filter_append_perm _ _).symm;have hm:p∈z.filter fun p=>has p.1.1 [q]:=aR.2 ⟨hp3,by rw[hp4];exact sa.2 (by simp)⟩
 obtain⟨A,C,hAC⟩:=List.append_of_mem hm;rw[hAC]at hperm;refine⟨p.2,(z.filter fun p=>!has p.1.1 [q]).map Prod.snd,(A++C).map Prod.snd,hp5,?_,?_⟩
 . rw[<- hz2,<- aX,<- aO (f:=Prod.snd)];refine List.Perm.map _ (hperm.trans ?_);refine((List.perm_middle (l₁:=A) (l₂:=C) (a:=p)).append_right _).trans ?_;exact List.Perm.cons p aW
 . have:gW [q] (z.map Prod.fst)=(z.filter fun p=>!has p.1.1 [q]).map Prod.fst:=by
    rw[Cm,List.filter_map];rfl
   rw[<- hz1,this];exact xR fun p hp=>hz3 p (aR.1 hp).1
theorem LD(hI:Inv K n ds B m0 rb σ g a m L)(x:Gh):∃g1,GE g g1/\g1.bk (σ.ct+1)=some x/\Inv K n ds B m0 rb {σ with ct:=σ.ct+64} g1 a m L:=by
 let g1:GG S:={bk:=fun i=>if i=σ.ct+1 then some x else g.bk i,vv:=g.vv,oo:=g.oo};have ge:GE g g1:=⟨fun i y hy=>by
  show(if i=σ.ct+1 then some x else g.bk i)=_;rw[if_neg fun e=>by rw[e,(hI.fresh _ (by omega)).1]at hy;cases hy];exact hy,fun _ _ h=>h,fun _ _ h=>h⟩
 refine⟨g1,ge,if_pos rfl,hI.size,hI.defers,hI.at_,fun s cJ v h=>(let⟨u,k1,k2⟩:=hI.tm s cJ v h;⟨u,k1,k2.mono ge (Le.refl m)⟩),hI.ob.mono ge (Le.refl m),hI.st,fun i hi=>⟨?_,(hI.fresh i (by simp only at hi;omega)).2.1,(hI.fresh i (by simp only at hi;omega)).2.2⟩,⟨hI.rt.1,fun j q hj=>?_⟩⟩
 . simp only at hi;show(if i=σ.ct+1 then some x else g.bk i)=_;rw[if_neg (by omega)];exact(hI.fresh i (by omega)).1
 . obtain⟨h,k1,k2⟩:=hI.rt.2 j q hj;exact⟨h,k1,ge.bk _ _ k2⟩
theorem B8(hI:Inv K n ds B m0 rb σ g a m L){q:Nat}{ao:AO S}{e:ck}(ho:xf K g m q ao e)(hst:St B m0 m ((e::L)++ds.X)):∃g1,GE g g1/\Inv K n ds B m0 rb (Pz σ q ao) g1 a m (e::L):=by
 let g1:GG S:={g with oo:=fun i=>if i=σ.ct+32 then some (ao,e)else g.oo i};have ge:GE g g1:=⟨fun _ _ h=>h,fun _ _ h=>h,fun i y hy=>by
  show(if i=σ.ct+32 then some (ao,e)else g.oo i)=_;rw[if_neg fun e'=>by rw[e',(hI.fresh _ (by omega)).2.2]at hy;cases hy];exact hy⟩
 refine⟨g1,ge,hI.size,hI.defers,hI.at_,fun s cJ v h=>(let⟨u,k1,k2⟩:=hI.tm s cJ v h;⟨u,k1,k2.mono ge (Le.refl m)⟩),⟨e,L,rfl,if_pos rfl,ho.mono ge (Le.refl m),hI.ob.mono ge (Le.refl m)⟩,hst,fun i hi=>⟨?_,?_,?_⟩,hI.rt⟩
 . have hi:σ.ct+64<=i:=hi;exact(hI.fresh i (by omega)).1
 . have hi:σ.ct+64<=i:=hi;exact(hI.fresh i (by omega)).2.1
 . have hi:σ.ct+64<=i:=hi;show(if i=σ.ct+32 then some (ao,e)else g.oo i)=_;rw[if_neg (by omega)];exact(hI.fresh i (by omega)).2.2
theorem QX(hI:Inv K n ds B m0 rb σ g a m L){t cJ:Nat}{v0 v:AV S}(hs:look t σ.tm=some (cJ,v0))(hv:∀u,cg K g m v0 u->cg K g m v u):Inv K n ds B m0 rb {σ with tm:=(t,cJ,v)::drop1 t σ.tm,ct:=σ.ct+64} g a m L:=by
 refine⟨hI.size,hI.defers,fun t' vid' v' hl=>?_,fun s vid' v' hl=>?_,hI.ob,hI.st,fun i hi=>hI.fresh i (by simp only at hi;omega),hI.rt⟩
 . simp only[cb]at hl;by_cases e':t=σ.fb+t'
   . rw[if_pos e']at hl;cases hl;exact hI.at_ t' cJ v0 (by rw[<- e'];exact hs)
   . rw[if_neg e',qb (Ne.symm e')]at hl;exact hI.at_ _ _ _ hl
 . simp only[cb]at hl;by_cases e':t=s
   . rw[if_pos e']at hl;cases hl;obtain⟨u,k1,k2⟩:=hI.tm _ _ _ hs;exact⟨u,k1,hv u k2⟩
   . rw[if_neg e',qb (Ne.symm e')]at hl;exact hI.tm _ _ _ hl
theorem Oa{w w':CV S}(hv:∀cs,b6 K g m w cs->b6 K g m w' cs):∀{vs:List (CV S)} {i:Nat} {us:List Value},vs[i]?=some w->dX K g m vs us->dX K g m (vs.set i w') us
 |[],i,us,h,_=>by simp at h
 |v::vs,0,us,h,⟨c1,c2,e,h1,h2⟩=>by
  simp at h;subst h;exact⟨c1,c2,e,hv _ h1,h2⟩
 |v::vs,i+1,us,h,⟨c1,c2,e,h1,h2⟩=>⟨c1,c2,e,h1,Oa hv (by simpa using h) h2⟩
theorem CQ{t i:Nat}{w w':CV S}(hI:Inv K n ds B m0 rb σ g a m L)(hp:place σ t i=some w)(hv:∀cs,b6 K g m w cs->b6 K g m w' cs):∃g1 L1,GE g g1/\Inv K n ds B m0 rb (CP σ t i w') g1 a m L1:=by
 unfold place at hp;unfold CP;split at hp
 . rename_i cJ v hs
   cases i with
   |zero=>
    simp only[al]at hp
    subst hp
    exact⟨g,L,GE.refl g,QX hI hs fun u h=>by simp only[cg]at h ⊢; exact hv _ h⟩
   |succ i=>
    simp only at hp ⊢
    split at hp
    case h_2=>cases hp
    case h_1 o off=>
    split at hp
    case h_2=>cases hp
    case h_1 ver T cs hlk=>
    obtain⟨e,L0,Rst,ho,hperm,hob⟩:=xA (X:=[]) hI.ob hlk
    obtain⟨gh,b,us,h1,h2,rfl,h4⟩:=ho
    have hI2:Inv K n ds B m0 rb {σ with ob:=gW [o] σ.ob} g a m L0:=⟨hI.size,hI.defers,hI.at_,hI.tm,hob,by
     have:=hI.st.perm (hperm.append_right _);have h5:List.Perm ((.box b us.toArray T::(L0++Rst))++ds.X) ((L0++ds.X)++(.box b us.toArray T::Rst)):=by
      show List.Perm (.box b us.toArray T::((L0++Rst)++ds.X)) _;refine(List.Perm.cons _ ?_).trans (List.perm_middle (l₁:=L0++ds.X) (l₂:=Rst) (a:=ck.box b us.toArray T)).symm;rw[aA,aA];exact br L0 aW
     exact(this.perm h5).qB,hI.fresh,hI.rt⟩
    obtain⟨g1,k1,k2⟩:=B8 hI2 (q:=o) (ao:=.box T (cs.set i w')) (e:=.box b us.toArray T) ⟨gh,b,us,h1,h2,rfl,Oa hv hp h4⟩ (by
     have:=hI.st.perm (hperm.append_right _);have h5:List.Perm ((.box b us.toArray T::(L0++Rst))++ds.X) (((.box b us.toArray T::L0)++ds.X)++Rst):=by
      simp only[bD,aA];exact List.Perm.cons _ (br L0 aW)
     exact(this.perm h5).qB)
    exact⟨g1,_,k1,k2⟩
 . rename_i cJ vs hs
   cases i with
   |zero=>cases hp
   |succ i=>
    simp only at hp ⊢
    exact⟨g,L,GE.refl g,QX hI hs fun u h=>by
     simp only[cg]at h ⊢;obtain⟨cs,e,h1⟩:=h;exact⟨cs,e,Oa hv hp h1⟩⟩
 . cases hp
theorem X3{t i:Nat}{k:PrK}(hI:Inv K n ds B m0 rb σ g a m L)(h:X2 σ t i k=some σ1):∃g1 m1 L1,m1.w=m.w/\Le m m1/\GE g g1/\Inv K n ds B m0 rb σ1 g1 a m1 L1:=by
 unfold X2 at h;split at h
 . rename_i e c hp;cases h;obtain⟨g1,k1,k2,k3⟩:=LD hI ⟨none,none,0,0,default⟩;obtain⟨g2,L2,k4,k5⟩:=CQ (w':= .rw (σ.ct+1) c []) k3 hp fun cs hc=>by
    simp only[b6]at hc ⊢;exact⟨_,[],none,k2,by rw[hc];rfl,g8.nil _ _,g8.nil _ _,rfl,fun h=>absurd h (by simp)⟩
   obtain⟨g3,k6,k7⟩:=B8 k5 (q:=σ.ct+1) (ao:=.row e c) (e:=.row none e (0*zK K c) (0*zK K c)) ⟨_,k4.bk _ _ k2,rfl⟩ (k5.st.Ry (α:=Unit) e (zK K c));exact⟨g3,m,_,rfl,Le.refl m,(k1.trans k4).trans k6,k7⟩
 . rename_i e c hp;cases h;obtain⟨g1,k1,k2,k3⟩:=LD hI ⟨none,none,0,0,default⟩;obtain⟨g2,L2,k4,k5⟩:=CQ (w':= .aw (σ.ct+1)) k3 hp fun cs hc=>by
    simp only[b6]at hc ⊢;exact⟨_,k2,by rw[hc]⟩
   obtain⟨g3,k6,k7⟩:=B8 k5 (q:=σ.ct+1) (ao:=.arr e c true []) (e:=.arr none #[] e) ⟨_,#[],k4.bk _ _ k2,rfl,rfl,kn.nil _ _ _,fun _=>⟨rfl,Es.nil _ _ _⟩⟩ (k5.st.WC _ _);exact⟨g3,m,_,rfl,Le.refl m,(k1.trans k4).trans k6,k7⟩
 . rename_i o hp;obtain⟨⟨ver,ao⟩,hlk,h1⟩:=aa.1 h;clear h;simp only at h1;split at h1
   case h_2=>cases h1
   case h_1 e c f l=>
   split at h1
   case h_2=>cases h1
   case h_1 o' hp2=>
   split at h1
   case h_2=>cases h1
   case h_1 he=>
   obtain rfl:=ah he;have h3:=au h1;subst h3;obtain⟨en,L0,Rst,ho,hperm,hob⟩:=xA (X:=[]) hI.ob hlk;obtain⟨gh,cs,h1,h2,rfl,h4,_⟩:=ho;have hs:St B m0 m (.arr gh.g cs e::((L0++ds.X)++Rst)):=(hI.st.perm (hperm.append_right _)).perm (by
    simp only[bD,aA];exact List.Perm.cons _ (br L0 aW))
   obtain⟨m1,hw,hle,hS,hE⟩:=St.MS (dV K c) hs h4;have hI2:Inv K n ds B m0 rb {σ with ob:=gW [o'] σ.ob} g a m1 L0:=⟨hI.size,hI.defers,hI.at_,fun s cJ v h=>(let⟨u,k1,k2⟩:=hI.tm s cJ v h;⟨u,k1,k2.mono (GE.refl _) hle⟩),hob.mono (GE.refl _) hle,hS.qB,hI.fresh,hI.rt⟩;obtain⟨g2,L2,k4,k5⟩:=CQ (w':= .sl c l) hI2 hp2 fun cs hc=>by
    simp only[b6]at hc ⊢;obtain⟨gh2,j1,j2⟩:=hc;rw[h1]at j1;cases j1;exact⟨gh.ad,gh.cap,by rw[j2,h2],hE⟩
   exact⟨g2,m1,_,hw,hle,k4,k5⟩
 . cases h;exact⟨g,m,L,rfl,Le.refl m,GE.refl g,hI⟩
 . cases h
theorem Dz:∀{l:List (Nat×Nat×PrK)} {σ σ1:AS S} {g:GG S} {m:Mem} {L:List ck},Inv K n ds B m0 rb σ g a m L->H2 l σ=some σ1->∃g1 m1 L1,m1.w=m.w/\Le m m1/\GE g g1/\Inv K n ds B m0 rb σ1 g1 a m1 L1
 |[],σ,σ1,g,m,L,hI,h=>by simp only[H2,al]at h;subst h;exact⟨g,m,L,rfl,Le.refl m,GE.refl g,hI⟩
 |(t,i,k)::l,σ,σ1,g,m,L,hI,h=>by
  simp only[H2]at h;obtain⟨σ2,h1,h2⟩:=aa.1 h;obtain⟨g1,m1,L1,hw,hl,k1,k2⟩:=X3 hI h1;obtain⟨g2,m2,L2,hw2,hl2,j1,j2⟩:=Dz k2 h2;exact⟨g2,m2,L2,hw2.trans hw,hl.trans hl2,k1.trans j1,j2⟩
end
end E
end
section
open Go.RowKit G
namespace E
variable {S:Nat->Type}{tb:Tb S}{K:jy tb}{P:Program}{tt:TypeId->Option (TI S)}{g:GG S}{m:Mem}
theorem uc{α:Type}{t:Nat}:∀{l l':List (Nat×α)},look t (l++l')=match look t l with|some x=>some x|none=>look t l'
 |[],l'=>rfl
 |(u,x)::l,l'=>by
  rw[bD,cb,cb];by_cases h:u=t
  . rw[if_pos h,if_pos h]
  . rw[if_neg h,if_neg h];exact uc
theorem zt{J:JA}:∀{l:List (Nat×Nat×AV S)} {s:Nat} {x:Nat×AV S},look s (Bk J l)=some x->look s l=some x
 |[],s,x,h=>h
 |(t,y)::l,s,x,h=>by
  unfold Bk at h;rw[cb];split at h
  . rename_i hk;by_cases e:t=s
    . subst e;exfalso;have key:∀l:List (Nat×Nat×AV S),look t (Bk J l)=none:=fun l=>by
       induction l with
       |nil=>rfl
       |cons z l ih=>
        obtain⟨u,z⟩:=z
        unfold Bk
        split
        . exact ih
        . rename_i hk'
          rw[cb]
          by_cases e:u=t
          . subst e;rw[hk]at hk';cases hk'
          . rw[if_neg e];exact ih
      rw[key]at h;cases h
    . rw[if_neg e];exact zt h
  . rw[cb]at h;by_cases e:t=s
    . rw[if_pos e]at h ⊢; exact h
    . rw[if_neg e]at h ⊢; exact zt h
theorem IZ{tm:List (Nat×Nat×AV S)}:∀{l:List (Nat×Nat×AV S)} {s:Nat} {x:Nat×AV S},O3 tm l=true->look s l=some x->∃v,look s tm=some (x.1,v)
 |[],s,x,_,h=>by cases h
 |(t,y)::l,s,x,hs,h=>by
  simp only[O3,aq]at hs;rw[cb]at h;by_cases e:t=s
  . subst e;rw[if_pos rfl]at h;cases h;have h1:=hs.1;split at h1
    . rename_i z hz;obtain⟨z1,z2⟩:=z;have:=ah h1;simp only at this;exact⟨z2,by rw[hz,this]⟩
    . cases h1
  . rw[if_neg e]at h;exact IZ hs.2 h
theorem LO{ob:List (Nat×Nat×AO S)}:∀{l:List (Nat×Nat×AO S)} {x:Nat×Nat×AO S},O1 ob l=true->x∈l->∃a,look x.1 ob=some (x.2.1,a)
 |[],x,_,h=>by cases h
 |(t,y)::l,x,hs,h=>by
  simp only[O1,aq]at hs;rcases aV.1 h with rfl|h
  . have h1:=hs.1;split at h1
    . rename_i z hz;obtain⟨z1,z2⟩:=z;have:=ah h1;simp only at this;exact⟨z2,by rw[hz,this]⟩
    . cases h1
  . exact LO hs.2 h
theorem HO{r:List Nat}:∀{ob:List (Nat×Nat×AO S)},K1 r ob=ob.filter fun x=>has x.1 r
 |[]=>rfl
 |(q,x)::l=>by
  unfold K1;split
  . rename_i h;rw[List.filter_cons_of_pos (by simp[h]),HO]
  . rename_i h;rw[List.filter_cons_of_neg (by simp[h])];exact HO
theorem Ni{ids:Nat->Nat}:∀{l:List (AO S)} {L:List ck} {o v:Nat},Rb K g m ids o l L->(∀i a e,l[i]?=some a->L[i]?=some e->g.oo (v+i)=some (a,e))->lu K g m (Sj ids o v l) L
 |[],L,o,v,h,_=>h
 |a::l,L,o,v,h,ho=>by
  obtain⟨e,L',rfl,h1,h2⟩:=h;exact⟨e,L',rfl,ho 0 a e rfl rfl,h1,Ni h2 fun i b f hb hf=>by
   have:=ho (i+1) b f (by simpa using hb) (by simpa using hf);rw[<- this];congr 1;omega⟩
theorem Dt{t x:Nat}:∀{l:List (Nat×Nat)},look t l=some x->(t,x)∈l
 |[],h=>by cases h
 |(u,y)::l,h=>by
  rw[cb]at h;by_cases e:u=t
  . rw[if_pos e]at h;cases h;rw[e];exact ar
  . rw[if_neg e]at h;exact aD _ (Dt h)
theorem Vw{l:List (Nat×Nat)}{x:Nat}:∀{a b:Nat},(l.map (·.2)).Nodup->(a,x)∈l->(b,x)∈l->a=b:=by
 induction l with
 |nil=>intro a b _ h;cases h
 |cons p l ih=>
  intro a b hn ha hb
  obtain⟨h1,h2⟩:=List.nodup_cons.1 hn
  rcases aV.1 ha with e|ha'
  . rcases aV.1 hb with e2|hb'
    . rw[<- e]at e2;exact(Prod.mk.inj e2).1.symm
    . exact absurd (List.mem_map.2 ⟨_,hb',by rw[<- e]⟩) h1
  . rcases aV.1 hb with e2|hb'
    . exact absurd (List.mem_map.2 ⟨_,ha',by rw[<- e2]⟩) h1
    . exact ih h2 ha' hb'
theorem Qp{ids:Nat->Nat}:∀{l:List (AO S)} {L:List ck} {o v:Nat},Rb K g m ids o l L->(∀i,ids (o+i)=v+i)->(∀i a e,l[i]?=some a->L[i]?=some e->g.oo (v+i)=some (a,e))->lu K g m (Qo v l) L
 |[],L,o,v,h,_,_=>h
 |a::l,L,o,v,h,hi,ho=>by
  obtain⟨e,L',rfl,h1,h2⟩:=h;refine⟨e,L',rfl,ho 0 a e rfl rfl,?_,Qp h2 (fun i=>?_) fun i b f hb hf=>?_⟩
  . have:=hi 0;simp only[Nat.add_zero]at this;rw[this]at h1;exact h1
  . have:=hi (i+1);rw[show o+1+i=o+(i+1)by omega,this];omega
  . have:=ho (i+1) b f (by simpa using hb) (by simpa using hf);rw[<- this];congr 1;omega
theorem NM{ids:Nat->Nat}:∀{l:List (AO S)} {L:List ck} {o:Nat},Rb K g m ids o l L->L.length=l.length
 |[],L,o,h=>by simp only[Rb]at h;subst h;rfl
 |a::l,L,o,h=>by obtain⟨e,L',rfl,h1,h2⟩:=h;simp[NM h2]
theorem Lv{z:ZL S}{f:((Nat×Nat×AO S)×ck)->Nat}:∀{z0:ZL S},(∀p0∈z0,∃p,zu z (f p0)=some p/\p.2=p0.2)->(jv z (z0.map f)).map Prod.snd=z0.map Prod.snd
 |[],_=>rfl
 |p0::z0,h=>by
  obtain⟨p,h1,h2⟩:=h p0 ar;have ih:=Lv (z0:=z0) fun q hq=>h q (aD _ hq)
  simp only[jv]at ih;simp only[jv,aO,List.filterMap_cons,h1,h2,ih]
section
variable {n:Nat}{ds ds0:Cx}{B:List Nat}{m0 ms:Mem}{rb:Nat->Option Gh}{σ0 σ σ1:AS S}{a a0:Act}{L L0:List ck}{g0:GG S}
theorem Q0{L L' Y X:List ck}{m:Mem}(h:St B m0 m (L++X))(p:List.Perm L (L'++Y)):St B m0 m (L'++X):=by
 have h1:List.Perm (L++X) ((L'++X)++Y):=(List.Perm.append_right X p).trans (by rw[aA,aA];exact br _ aW);exact(h.perm h1).qB
theorem Dn{J:JA}{z:HT S J.ls}(h0:Inv K n ds0 B m0 rb σ0 g0 a0 ms L0)(hI:Inv K n ds B m0 rb σ g a m L)(hge:GE g0 g)(hle:Le ms m)(hp:pack tb J σ0 σ=some z)(hu:unpack tb J σ0 z=some σ1):
 ∃g1 m1 L1,m1.w=m.w/\Le ms m1/\GE g0 g1/\Inv K n ds B m0 rb σ1 g1 a m1 L1:=by
 unfold pack at hp
 obtain⟨σp,hpre,hp⟩:=aa.1 hp
 obtain⟨gp,mp_,Lp,hw,hle1,hge1,hI⟩:=Dz hI hpre
 replace hge:=hge.trans hge1
 replace hle:=hle.trans hle1
 clear hpre hle1 hge1
 suffices ∃g1 L1,GE g0 g1/\Inv K n ds B m0 rb σ1 g1 a mp_ L1 by
  obtain⟨g1,L1,k1,k2⟩:=this;exact⟨g1,mp_,L1,hw,hle,k1,k2⟩
 clear hw
 revert hp hI hge hle
 generalize σp=σ,gp=g,mp_=m,Lp=L
 intro hp hI hge hle
 split at hp
 case h_2=>cases hp
 case h_1 hc=>
 simp only[aq]at hc
 obtain⟨⟨⟨⟨c1,c2⟩,c3⟩,c4⟩,c5⟩:=hc
 have hfx:∀o q,look o J.fx=some q->(∃x,look q σ0.ob=some x)/\o<=200:=fun o q h=>by
  have:=a7.1 c4 _ (Dt h);simp only[aq,Option.isSome_iff_exists]at this;exact⟨this.1,ay this.2⟩
 have hMf:re J.fx:=⟨fun o o' q h h'=>Vw (qJ c5) (Dt h) (Dt h'),fun o q h=>(hfx o q h).2⟩
 obtain⟨⟨pd,mp0⟩,hp1,hp⟩:=aa.1 hp
 obtain⟨⟨qd,mp⟩,hq1,hp⟩:=aa.1 hp
 simp only at hq1 hp
 split at hp
 case h_2=>cases hp
 case h_1 hd=>
 have d2:=hd
 obtain⟨dd,hdd,hof⟩:=aa.1 hp
 unfold unpack at hu
 obtain⟨de,hde,hu1⟩:=aa.1 hu
 obtain⟨⟨tl,r1⟩,hf1,hu2⟩:=aa.1 hu1
 obtain⟨⟨ol,r2⟩,hf2,hu3⟩:=aa.1 hu2
 clear hu hu1 hu2
 simp only[al]at hu3
 simp only at hf2
 rw[KN hof]at hde
 have:=Dy J.Za hdd hde
 subst this
 have c3:=ah c3
 have hJ:=J.JF
 simp only[aq]at hJ
 have hJ1:=ay hJ.1
 have hJ2:=ay hJ.2
 let val:Nat->Value:=fun s=>((look s σ.tm).bind fun x=>g.vv x.1).getD undef
 have hval:∀t cJ v,look t σ.tm=some (cJ,v)->g.vv cJ=some (val t):=fun t cJ v ht=>by
  obtain⟨u,h1,_⟩:=hI.tm t cJ v ht;show _=some (((look t σ.tm).bind fun x=>g.vv x.1).getD undef);rw[ht];simp[h1]
 obtain⟨s1,s2,s3⟩:=Fh (val:=val) (fun t cJ v ht=>by
  obtain⟨u,h1,h2⟩:=hI.tm t cJ v ht;rw[hval t cJ v ht]at h1;cases h1;exact h2) hp1
 obtain⟨t1,t2,t3⟩:=OS.yQ hq1
 have hM:=t2 (s2 hMf)
 obtain⟨z,hz1,hz2,hz3⟩:=zw hI.ob
 obtain⟨z0,hy1,hy2,hy3⟩:=zw h0.ob
 have hnd:=qJ d2
 obtain⟨Y,hY⟩:=vN (z:=z) hnd
 have hkept:∃r:Nat->Bool,F9 J σ0=σ0.ob.filter fun x=>r x.1:=by
  unfold F9;rw[Cm,HO,List.filter_filter];exact⟨fun q=>!has q _&&has q _,rfl⟩
 obtain⟨r,hr⟩:=hkept
 have hk2:F9 J σ0=(z0.filter fun p=>r p.1.1).map Prod.fst:=by rw[hr,<- hy1,List.filter_map];rfl
 have hk3:(F9 J σ0).map (·.1)=(z0.filter fun p=>r p.1.1).map fun p=>p.1.1:=by rw[hk2,List.map_map];rfl
 have hsame:∀p0∈z0.filter (fun p=>r p.1.1),∃p,zu z p0.1.1=some p/\p.2=p0.2:=fun p0 hp0=>by
  have hm:=(aR.1 hp0).1;obtain⟨x,hx⟩:=LO c2 (x:=p0.1) (by rw[hk2];exact List.mem_map_of_mem hp0);rw[<- hz1,xZ]at hx;obtain⟨p,hp1,hp2⟩:=af.1 hx;refine⟨p,hp1,?_⟩;have e1:=(hz3 p (n9 hp1).1).1;have e2:=hge.oo _ _ (hy3 p0 hm).1;rw[hp2]at e1;simp only at e1;rw[e1]at e2;have:=au e2;exact(Prod.mk.inj this).2
 have hLK:=Lv (z:=z) hsame
 have hJL:lu K g m (pick σ.ob (H3 mp 0 J.eW.length)) ((jv z (H3 mp 0 J.eW.length)).map Prod.snd):=by
  rw[<- hz1,<- vM];exact xR fun p hp=>by
   obtain⟨q,_,hq⟩:=List.mem_filterMap.1 hp;exact hz3 p (n9 hq).1
 generalize hLJ:(jv z (H3 mp 0 J.eW.length)).map Prod.snd=LJ at hJL
 let g1:GG S:=
  {bk:=fun i=>if σ0.ct<=i then(look (i-σ0.ct) mp).bind g.bk else g0.bk i
   vv:=fun i=>if σ0.ct<=i then(if σ0.ct+64<=i then(tl[i-(σ0.ct+64)]?).map fun x=>val x.1 else none)else g0.vv i
   oo:=fun i=>if σ0.ct<=i then(match ol[i-σ0.ct]?,LJ[i-σ0.ct]? with|some a,some e=>some (a,e)|_,_=>none)else g0.oo i}
 have ge1:GE g0 g1:=⟨fun i x hx=>by
  show(if _ then _ else _)=_;rw[if_neg fun h=>by rw[(h0.fresh i h).1]at hx;cases hx];exact hx,fun i x hx=>by
  show(if _ then _ else _)=_;rw[if_neg fun h=>by rw[(h0.fresh i h).2.1]at hx;cases hx];exact hx,fun i x hx=>by
  show(if _ then _ else _)=_;rw[if_neg fun h=>by rw[(h0.fresh i h).2.2]at hx;cases hx];exact hx⟩
 have hRen:Ren mp g g1 (J.ids σ0.ct):=fun o q h ho hb=>by
  unfold JA.ids;split
  . rename_i q' hq';have:=t1 _ _ (s1 _ _ hq');rw[ho]at this;cases this;obtain⟨⟨ver,ao⟩,hx⟩:=(hfx o q hq').1;obtain⟨e,_,_,ho2,_,_⟩:=xA (X:=[]) h0.ob hx;have hb0:∃gh,g0.bk q=some gh:=by
     cases ao with
     |box T cs=>obtain⟨gh,b,vs,h1,_⟩:=ho2;exact⟨gh,h1⟩
     |row T c=>obtain⟨gh,h1,_⟩:=ho2;exact⟨gh,h1⟩
     |arr T c f l=>obtain⟨gh,cs,h1,_⟩:=ho2;exact⟨gh,h1⟩
     |loop r st tm=>obtain⟨gh,_,_,_,_,h1,_⟩:=ho2;exact⟨gh,h1⟩
     |map t kc vc l hole=>obtain⟨gh,_,_,_,h1,_⟩:=ho2;exact⟨gh,h1⟩
     |fk t et kc c l hole=>obtain⟨gh,_,_,_,_,h1,_⟩:=ho2;exact⟨gh,h1⟩
     |sJ t kc vc l hole q=>obtain⟨gh,_,_,_,h1,_⟩:=ho2;exact⟨gh,h1⟩
     |IK kc o st=>obtain⟨gh,_,_,_,h1,_⟩:=ho2;exact⟨gh,h1⟩
     |Mq t kc l=>obtain⟨gh,_,_,_,h1,_⟩:=ho2;exact⟨gh,h1⟩
    obtain⟨gh,hb0⟩:=hb0;have:=hge.bk _ _ hb0;rw[hb]at this;cases this;show(if σ0.ct<=q then _ else g0.bk q)=_;rw[if_neg fun hle=>by rw[(h0.fresh q hle).1]at hb0;cases hb0];exact hb0
  . show(if σ0.ct<=σ0.ct+o then(look (σ0.ct+o-σ0.ct) mp).bind g.bk else _)=_;rw[if_pos (by omega),show σ0.ct+o-σ0.ct=o by omega,ho];exact hb
 obtain⟨e1,e2,e3⟩:=s3 g1 _ _ _ _ _ (hRen.sub t1) hf1
 rw[e1]at hf2
 obtain⟨_,f2,f3⟩:=OS.DD hq1 (Sub.refl _) hJL g1 _ [] _ _ hRen (by rw[aK];exact hf2)
 have f4:=NM f2
 refine⟨g1,LJ++(z0.filter fun p=>r p.1.1).map Prod.snd,ge1,?_⟩
 subst hu3
 refine⟨hI.size,hI.defers,fun t cJ v hs=>?_,fun s cJ v hs=>?_,A2 (Ni f2 fun i x e hx he=>?_) ?_,?_,fun i hi=>⟨?_,?_,?_⟩,⟨h0.rt.1,fun j q hj=>?_⟩⟩
 ·
  simp only at hs
  rw[uc]at hs
  split at hs
  . rename_i x hx
    cases hs
    obtain⟨i,hi⟩:=List.getElem?_of_mem (nS hx)
    obtain⟨e4,e5,y,e6⟩:=e3 i _ hi
    simp only at e4 e6
    show(if _ then _ else _)=_
    rw[if_pos (by omega),if_pos (by omega),e4,show σ0.ct+64+i-(σ0.ct+64)=i by omega,hi]
    obtain⟨y1,y2⟩:=y
    have e7:=hval _ _ _ e6
    rw[<- c3]at e6
    rw[hI.at_ _ _ _ e6]at e7
    exact e7.symm
  . obtain⟨v',hv'⟩:=IZ c1 hs
    have h1:=zt hs
    obtain⟨u,hu1,_⟩:=h0.tm _ _ _ h1
    rw[<- c3]at hv'
    have h2:=hI.at_ _ _ _ hv'
    simp only at h2
    rw[hge.vv _ _ hu1]at h2
    rw[ge1.vv _ _ hu1];exact h2
 . simp only at hs
   rw[uc]at hs
   split at hs
   . rename_i x hx
     cases hs
     obtain⟨i,hi⟩:=List.getElem?_of_mem (nS hx)
     obtain⟨e4,e5,y,e6⟩:=e3 i _ hi
     simp only at e4 e5
     refine⟨val s,?_,e5⟩
     show(if _ then _ else _)=_
     rw[if_pos (by omega),if_pos (by omega),e4,show σ0.ct+64+i-(σ0.ct+64)=i by omega,hi]
     rfl
   . obtain⟨u,hu1,hu2⟩:=h0.tm _ _ _ (zt hs)
     exact⟨u,ge1.vv _ _ hu1,hu2.mono ge1 hle⟩
 . show(if _ then _ else _)=_
   rw[if_pos (by omega),show σ0.ct+i-σ0.ct=i by omega,hx,he]
 . rw[hk2]
   exact xR fun p hp=>by
    obtain⟨k1,k2⟩:=hy3 p (aR.1 hp).1;exact⟨ge1.oo _ _ k1,k2.mono ge1 hle⟩
 . refine Q0 hI.st (Y:=Y.map Prod.snd) ?_
   show List.Perm L ((LJ++(z0.filter fun p=>r p.1.1).map Prod.snd)++Y.map Prod.snd)
   ·
    rw[<- hz2,<- hLJ,<- hLK,<- hk3,<- aX,<- aX]
    refine List.Perm.map _ ?_
    have:jv z (H3 mp 0 J.eW.length)++jv z ((F9 J σ0).map (·.1))=jv z (H3 mp 0 J.eW.length++(F9 J σ0).map (·.1)):=by
     simp only[jv,List.filterMap_append]
    rw[this];exact hY
 . simp only at hi
   show(if _ then _ else _)=_
   rw[if_pos (by omega)]
   cases hl:look (i-σ0.ct) mp with
   |none=>rfl
   |some q=>have:=hM.small _ _ hl;omega
 . simp only at hi
   show(if _ then _ else _)=_
   rw[if_pos (by omega),if_pos (by omega),List.getElem?_eq_none (by omega)];rfl
 . simp only at hi
   show(if _ then _ else _)=_
   rw[if_pos (by omega),List.getElem?_eq_none (l:=ol) (by omega)]
 . obtain⟨h,k1,k2⟩:=h0.rt.2 j _ hj
   exact⟨h,k1,ge1.bk _ _ k2⟩
end
end E
end
section
open Go.RowKit G
open Go.ChangeMaps (setBlock)
namespace E
variable {S:Nat->Type}{tb:Tb S}{K:jy tb}{P:Program}{tt:TypeId->Option (TI S)}{g:GG S}{m m0:Mem}{n:Nat}{ds:Cx}{B:List Nat}{rb:Nat->Option Gh}{σ σ2:AS S}{a:Act}{L:List ck}
theorem Bl{t s:Nat}:∀{l:List (Nat×Nat×AV S)},look s (Tp t l)=if s=t then none else look s l
 |[]=>by unfold Tp;simp[look]
 |(u,x)::l=>by
  have ih:=Bl (t:=t) (s:=s) (l:=l);unfold Tp at ih ⊢;rw[List.filter_cons];by_cases h:u=t
  . subst h;rw[if_neg (by simp),ih];by_cases h2:s=u
    . rw[if_pos h2,if_pos h2]
    . rw[if_neg h2,if_neg h2,cb,if_neg (Ne.symm h2)]
  . rw[if_pos (by rw[wR h];rfl),cb,cb,ih];by_cases h2:s=t
    . rw[if_pos h2,if_pos h2,if_neg (by rw[h2];exact h)]
    . rw[if_neg h2,if_neg h2]
theorem Cn(hI:Inv K n ds B m0 rb σ g a m L)(t:Nat):Inv K n ds B m0 rb (σ.fI t) g a m L:=by
 have key:∀s cJ v,look s (σ.fI t).tm=some (cJ,v)->look s σ.tm=some (cJ,v):=fun s cJ v h=>by
  unfold AS.fI at h;simp only at h;rw[Bl]at h;split at h
  . cases h
  . exact h
 exact⟨hI.size,hI.defers,fun t' cJ v h=>hI.at_ t' cJ v (key _ _ _ h),fun s cJ v h=>hI.tm s cJ v (key _ _ _ h),hI.ob,hI.st,hI.fresh,hI.rt⟩
theorem Bc(σ:AS S)(t:Nat):look (σ.fb+t) (σ.fI t).tm=none:=by
 unfold AS.fI;simp only;rw[Bl,if_pos rfl]
theorem Bb{t u:Nat}(h:look (σ.fb+u) σ.tm=none):look (σ.fb+u) (σ.fI t).tm=none:=by
 unfold AS.fI;simp only;rw[Bl];split
 . rfl
 . exact h
theorem JJ(hI:Inv K n ds B m0 rb σ g a m L){t:Nat}(ht:look (σ.fb+t) σ.tm=none)(v:Value):Inv K n ds B m0 rb σ g (a.put (some t) v) m L:=
 ⟨by simp[Act.put,hI.size],hI.defers,fun t' cJ x h=>by
  rw[Act.eval_put (fun d hd e=>by cases hd;cases e;rw[ht]at h;cases h)];exact hI.at_ t' cJ x h,hI.tm,hI.ob,hI.st,hI.fresh,hI.rt⟩
theorem Ab:∀{ob:List (Nat×Nat×AO S)} {L:List ck} {q ver:Nat} {ao:AO S},lu K g m ob L->look q ob=some (ver,ao)->∃e∈L,g.oo ver=some (ao,e)/\xf K g m q ao e
 |[],_,_,_,_,_,h=>by simp[look]at h
 |(u,x)::ob,L,q,ver,ao,⟨e,L',h0,h1,h2,h3⟩,h=>by
  subst h0;rw[cb]at h;split at h
  . rename_i hu;subst hu;cases h;exact⟨e,ar,h1,h2⟩
  . obtain⟨e',j1,j2⟩:=Ab h3 h;exact⟨e',aD _ j1,j2⟩
theorem CA{q o:Nat}(h:o≠q):∀{ob:List (Nat×Nat×AO S)},look o (gW [q] ob)=look o ob
 |[]=>rfl
 |(u,x)::ob=>by
  unfold gW;by_cases hu:u=q
  . subst hu;rw[show has u [u]=true from sa.2 ar];simp only;rw[CA h,cb,if_neg (Ne.symm h)]
  . rw[show has u [q]=false from by
     cases hb:has u [q]with
     |false=>rfl
     |true=>exact absurd (List.mem_singleton.1 (sa.1 hb)) hu]
    simp only;rw[cb,cb,CA h]
theorem F5{b:Nat}{o:Obj}(hI:Inv K n ds B m0 rb σ g a m L)(h:ck.obj b o∈L):m.w.heap[b]?=some o:=hI.st.ow.ok (.obj b o) (bw _ h)
structure abt(K:jy tb)(σ:AS S)(g:GG S)(a:Act)(m:Mem)(q it ver o ver2:Nat)(t:TypeId)(kc vc:Co)(st:Option (Option (T S kc)))(l:List (T S kc×T S vc))(gq:Gh)(r:Nat)(seen:Array Nat)(es:Array MapEntry):Prop where
 lq:look q σ.ob=some (ver,.IK kc o st)
 lo:look o σ.ob=some (ver2,.sJ t kc vc l none q)
 bk:g.bk q=some gq
 gr:gq.g=some r
 ev:a.eval (.tmp it)=.pointer (some ⟨r,0,none⟩)
 hr:m.w.heap[r]?=some (.mapIter (some gq.cap) gq.n seen gq.n)
 hb:m.w.heap[gq.cap]?=some (.map es gq.n)
 itr:itR K m kc gq.sk seen st
 mp:sR (fZ K kc m) (fun y v=>RK K vc m y [v]) es gq.n l
 sk:es.toList.map (fun e=>(e.key,e.born))=gq.sk
theorem Z7{q it:Nat}(hI:Inv K n ds B m0 rb σ g a m L)(h:Sg q it σ=true):∃ver o ver2 t kc vc st l gq r seen es,abt K σ g a m q it ver o ver2 t kc vc st l gq r seen es:=by
 unfold Sg at h;split at h
 . rename_i cJ q' ver kc o st F6 hq;split at h
   . rename_i ver2 t kc' vc l q2 ho;simp only[aq]at h;obtain⟨e1,e2,e3⟩:=h;obtain rfl:=ah e1;obtain rfl:=ah e2;split at e3
     . rename_i hk _;subst hk;obtain⟨h1,h2⟩:=hI.slot F6;simp only[cg,b6]at h2;obtain⟨gq,r,k1,k2,k3⟩:=h2;obtain⟨e,he,_,gh,go,r',seen,j1,j2,j3,j4,rfl,j6⟩:=Ab hI.ob hq;rw[k1]at j1;cases j1;rw[k2]at j2;cases j2;obtain⟨e2,he2,_,gm,b,es,gq',m1,m2,m3,m4,rfl,m5,m6,m7⟩:=Ab hI.ob ho;rw[k1]at m3;cases m3;rw[m1]at j3;cases j3;exact⟨ver,o,ver2,t,_,vc,st,l,gq,r,seen,es,hq,ho,k1,k2,by simpa using k3,F5 hI he,by rw[m4];exact F5 hI he2,j6,m5,m7⟩
     . cases e3
   . cases h
 . cases h
theorem Z9{q it nx c ver o ver2 r:Nat}{t:TypeId}{kc vc kx:Co}{st:Option (Option (T S kc))}{l:List (T S kc×T S vc)}{gq:Gh}{seen:Array Nat}{es:Array MapEntry}{x:T S kx}
 (hI:Inv K n ds B m0 rb σ g a m L) (hA:abt K σ g a m q it ver o ver2 t kc vc st l gq r seen es) (h:Vs q it nx c x σ=some σ2) {w1:World} (hw1:w1=m.w\/w1=m.w.drew) {j:Nat} {p:Value×Nat} (hsk:gq.sk[j]?=some p) (hx:fZ K kx m x p.1) (v1 v2:Value):
 ∃g2 m2 L2,m2.w=setBlock w1 r (.mapIter (some gq.cap) gq.n (seen.push p.2) gq.n)/\Le m m2/\GE g g2/\Inv K n ds B m0 rb σ2 g2 ((a.put (some nx) v1).put (some c) v2) m2 L2/\∃ao,g2.oo (σ.ct+32)=some (ao,.obj r (.mapIter (some gq.cap) gq.n (seen.push p.2) gq.n)):=by
 unfold Vs at h
 rw[hA.lq]at h
 simp only at h
 split at h
 case h_2=>cases h
 case h_1 hk hat _=>
 subst hk
 cases h
 have hI1:=Cn (Cn hI nx) c
 have hI2:Inv K n ds B m0 rb ((σ.fI nx).fI c) g ((a.put (some nx) v1).put (some c) v2) m L:=
  JJ (JJ hI1 (Bb (σ:=σ.fI nx) (Bc σ nx)) v1) (Bc (σ.fI nx) c) v2
 obtain⟨e,L0,Rst,ho,hperm,hob⟩:=xA (X:=[]) hI2.ob (show look q ((σ.fI nx).fI c).ob=some (ver,.IK kx o st) from hA.lq)
 have hmem:e∈L:=hperm.mem_iff.2 ar
 obtain⟨gh,go,r',seen',j1,j2,j3,j4,rfl,j6⟩:=ho
 rw[hA.bk]at j1;cases j1
 rw[hA.gr]at j2;cases j2
 have hh:=F5 hI hmem
 rw[hA.hr]at hh
 cases hh
 have hst:=hI2.st.perm (hperm.append_right ds.X)
 have hr1:w1.heap[r]?=some (.mapIter (some gq.cap) gq.n seen gq.n):=by rcases hw1 with rfl|rfl<;>exact hA.hr
 have hw:m.w.grownBy (setBlock w1 r (.mapIter (some gq.cap) gq.n (seen.push p.2) gq.n)) (some r):=by
  rcases hw1 with rfl|rfl<;>exact⟨rfl,rfl,rfl,by simp[setBlock],fun i _ hi=>by
   have hne:r≠i:=fun e=>hi (by rw[e])
   first|(simp[setBlock,hne];done)|(simp[setBlock,hne];rfl)⟩
 have hsz:(setBlock w1 r (.mapIter (some gq.cap) gq.n (seen.push p.2) gq.n)).heap.size=m.w.heap.size:=by rcases hw1 with rfl|rfl<;>simp[setBlock]
 have hbb:(setBlock w1 r (.mapIter (some gq.cap) gq.n (seen.push p.2) gq.n)).heap[r]?=some (.mapIter (some gq.cap) gq.n (seen.push p.2) gq.n):=by
  have hlt:r<w1.heap.size:=(Array.getElem?_eq_some_iff.1 hr1).1;simp[setBlock,hlt]
 have hst':St B m0 m (ck.obj r (.mapIter (some gq.cap) gq.n seen gq.n)::((L0++Rst)++ds.X)):=hst
 have hS:=hst'.vj hw hsz hbb
 have hle:Le m ⟨setBlock w1 r (.mapIter (some gq.cap) gq.n (seen.push p.2) gq.n),m.ok⟩:=((St.refl hst'.ow).vj hw hsz hbb).le
 have hS2:St B m0 ⟨setBlock w1 r (.mapIter (some gq.cap) gq.n (seen.push p.2) gq.n),m.ok⟩ ((ck.obj r (.mapIter (some gq.cap) gq.n (seen.push p.2) gq.n)::L0)++ds.X):=by
  have h5:List.Perm (ck.obj r (.mapIter (some gq.cap) gq.n (seen.push p.2) gq.n)::((L0++Rst)++ds.X)) (((ck.obj r (.mapIter (some gq.cap) gq.n (seen.push p.2) gq.n)::L0)++ds.X)++Rst):=by
   simp only[bD,aA];exact List.Perm.cons _ (br L0 aW)
  exact(hS.perm h5).qB
 have hI3:Inv K n ds B m0 rb {(σ.fI nx).fI c with ob:=gW [q] ((σ.fI nx).fI c).ob} g ((a.put (some nx) v1).put (some c) v2) ⟨setBlock w1 r (.mapIter (some gq.cap) gq.n (seen.push p.2) gq.n),m.ok⟩ L0:=
  ⟨hI2.size,hI2.defers,hI2.at_,fun s cJ v h=>(let⟨u,k1,k2⟩:=hI2.tm s cJ v h;⟨u,k1,k2.mono (GE.refl g) hle⟩),hob.mono (GE.refl g) hle,by
   have h5:List.Perm ((ck.obj r (.mapIter (some gq.cap) gq.n (seen.push p.2) gq.n)::L0)++ds.X) ((L0++ds.X)++[ck.obj r (.mapIter (some gq.cap) gq.n (seen.push p.2) gq.n)]):=by
    rw[bD];exact(List.perm_append_singleton _ _).symm
   exact(hS2.perm h5).qB,hI2.fresh,hI2.rt⟩
 have hobj:xf K g ⟨setBlock w1 r (.mapIter (some gq.cap) gq.n (seen.push p.2) gq.n),m.ok⟩ q (.IK kx o (some (some (IJ rfl x)))) (.obj r (.mapIter (some gq.cap) gq.n (seen.push p.2) gq.n)):=
  ⟨gq,go,r,seen.push p.2,hA.bk,hA.gr,j3,j4,rfl,j,p,hsk,by simp,fZ.mono K hle hx⟩
 obtain⟨g2,k1,k2⟩:=B8 hI3 hobj hS2
 refine⟨g2,_,_,rfl,hle,k1,k2,.IK kx o (some (some (IJ rfl x))),?_⟩
 obtain⟨e,L',h0,h1,_⟩:=k2.ob
 cases h0
 exact h1
theorem XG{q it nx c ver o ver2 r:Nat}{t:TypeId}{kc vc:Co}{st:Option (Option (T S kc))}{l:List (T S kc×T S vc)}{gq:Gh}{seen:Array Nat}{es:Array MapEntry}
 (hI:Inv K n ds B m0 rb σ g a m L) (hA:abt K σ g a m q it ver o ver2 t kc vc st l gq r seen es) (h:Ng q it nx c σ=some σ2) (v1 v2:Value):
 ∃g2 L2,GE g g2/\Inv K n ds B m0 rb σ2 g2 ((a.put (some nx) v1).put (some c) v2) m L2:=by
 unfold Ng at h
 rw[hA.lq]at h
 simp only at h
 rw[hA.lo]at h
 split at h
 case h_2=>cases h
 case h_1 e1 _=>
 cases e1
 cases h
 have hI1:=Cn (Cn (Cn hI nx) c) it
 have hI2:Inv K n ds B m0 rb (((σ.fI nx).fI c).fI it) g ((a.put (some nx) v1).put (some c) v2) m L:=
  JJ (JJ hI1 (Bb (σ:=(σ.fI nx).fI c) (Bb (σ:=σ.fI nx) (Bc σ nx))) v1) (Bb (σ:=(σ.fI nx).fI c) (Bc (σ.fI nx) c)) v2
 have hoq:o≠q:=fun e=>by
  have h1:=hA.lq;have h2:=hA.lo;rw[e,h1]at h2;cases h2
 obtain⟨e,L0,Rst,ho,hperm,hob⟩:=xA (X:=[]) hI2.ob (show look q (((σ.fI nx).fI c).fI it).ob=some (ver,.IK kc o st) from hA.lq)
 have hI3:Inv K n ds B m0 rb {(((σ.fI nx).fI c).fI it)with ob:=gW [q] (((σ.fI nx).fI c).fI it).ob} g ((a.put (some nx) v1).put (some c) v2) m L0:=
  ⟨hI2.size,hI2.defers,hI2.at_,hI2.tm,hob,by
   have h5:List.Perm ((e::(L0++Rst))++ds.X) ((L0++ds.X)++(e::Rst)):=by
    show List.Perm (e::((L0++Rst)++ds.X)) _;refine(List.Perm.cons _ ?_).trans (List.perm_middle (l₁:=L0++ds.X) (l₂:=Rst) (a:=e)).symm;rw[aA,aA];exact br L0 aW
   exact((hI2.st.perm (hperm.append_right _)).perm h5).qB,hI2.fresh,hI2.rt⟩
 obtain⟨e2,L1,Rst2,ho2,hperm2,hob2⟩:=xA (X:=[]) hI3.ob (show look o (gW [q] (((σ.fI nx).fI c).fI it).ob)=some (ver2,.sJ t kc vc l none q) from by rw[CA hoq];exact hA.lo)
 have hp2:List.Perm ((e2::(L1++Rst2))++ds.X) (((e2::L1)++ds.X)++Rst2):=by
  simp only[bD,aA];exact List.Perm.cons _ (br L1 aW)
 have hS2:St B m0 m ((e2::L1)++ds.X):=((hI3.st.perm (hperm2.append_right _)).perm hp2).qB
 have hI4:Inv K n ds B m0 rb {(((σ.fI nx).fI c).fI it)with ob:=gW [o] (gW [q] (((σ.fI nx).fI c).fI it).ob)} g ((a.put (some nx) v1).put (some c) v2) m L1:=
  ⟨hI2.size,hI2.defers,hI2.at_,hI2.tm,hob2,by
   have h5:List.Perm ((e2::L1)++ds.X) ((L1++ds.X)++[e2]):=by
    rw[bD];exact(List.perm_append_singleton _ _).symm
   exact(hS2.perm h5).qB,hI2.fresh,hI2.rt⟩
 obtain⟨gm,b,es',gq',m1,m2,m3,m4,rfl,m5,m6,m7⟩:=ho2
 obtain⟨g2,k1,k2⟩:=B8 hI4 (q:=o) (ao:=.map t kc vc l none) (e:=.obj b (.map es' gq'.n)) ⟨gm,b,es',gq'.n,m1,m2,rfl,m5,trivial⟩ hS2
 exact⟨g2,_,k1,k2⟩
theorem Z8{q it nx c:Nat}{kc:Co}{x:T S kc}(h:Vs q it nx c x σ=some σ2):Sg q it σ=true:=by
 unfold Vs at h;split at h
 . split at h
   . rename_i hb;exact hb
   . cases h
 . cases h
theorem XF{q it nx c:Nat}(h:Ng q it nx c σ=some σ2):Sg q it σ=true:=by
 unfold Ng at h;split at h
 . split at h
   . rename_i hb;exact hb
   . cases h
 . cases h
theorem VK{α:Type}(l:List α):(List.range l.length).filterMap (fun i=>l[i]?)=l:=by
 have key:∀k,k<=l.length->(List.range k).filterMap (fun i=>l[i]?)=l.take k:=fun k=>by
  induction k with
  |zero=>intro _;simp
  |succ k ih=>
   intro h
   rw[List.range_succ,List.filterMap_append,ih (by omega),aB (by omega)]
   simp[show k<l.length by omega]
 rw[key _ (Nat.le_refl _),bh]
end E
end
end Go.Proofs.YtekpafdhgkocaaaGreat
