/- Part of the proof. -/
import Derived.Test.YtjfkdglgecgjfaaGreatZEvC
namespace Go.Proofs.YtjfkdglgecgjfaaGreat
section
open Go.RowKit G
namespace E
variable {S:Nat->Type}{tb:Tb S}{K:ep tb}{P:Program}{tt:TypeId->Option (TI S)}{Φ:List (dS S)}{fa:FA S}{o:Oper}{xs:List (AV S)}{ob:List (Nat×Nat×AO S)}{ct:Nat}{γ:Type}{k:ia S->Option γ}{r:γ}
theorem Ho{c:Call}{b:Builtin}(hc:c.callee=.builtin b)(ho:o.op=.call c)(hl:xs.length=o.op.operands.toList.length)(h1:xs.length=1):∃x,c.args= #[x]:=by
 rw[ho]at hl;simp[Op.operands,Call.operands,hc,h1]at hl;obtain⟨x,hx⟩:=Array.size_eq_one_iff.1 hl.symm;exact⟨x,hx⟩
theorem qQ{c:Call}{b:Builtin}(hc:c.callee=.builtin b)(ho:o.op=.call c)(hl:xs.length=o.op.operands.toList.length)(h1:xs.length=2):∃x y,c.args= #[x,y]:=by
 rw[ho]at hl;simp[Op.operands,Call.operands,hc,h1]at hl
 match hc:c.args with
 |⟨[x,y]⟩=>exact⟨x,y,rfl⟩
 |⟨[]⟩=>rw[hc]at hl;simp at hl
 |⟨[_]⟩=>rw[hc]at hl;simp at hl
 |⟨_::_::_::_⟩=>rw[hc]at hl;simp at hl
theorem NA(hT:dx P K tt)(hΦ:∀c∈Φ,Sound P K c)(hl:xs.length=o.op.operands.toList.length)(h:core tb tt Φ fa o xs ob ct k=some r):dT P K o xs ob ct k r:=by
 unfold core at h;split at h
 case h_1 ho=>split at h;exact xZ (.inl ho) h;cases h
 case h_2 ho=>split at h;exact xZ (.inr ho) h;cases h
 case h_3 ho=>split at h;exact Hn ho h;cases h
 case h_4 ho=>split at h;exact wg ho h;cases h
 case h_5 ho=>
  split at h
  . exact tD ho h
  . cases h
 case h_6 ho=>split at h;exact Zs hT ho h;cases h
 case h_7 ho=>split at h;exact abp ho h;cases h
 case h_8 ho=>split at h;exact WM hT ho h;cases h
 case h_9 ho=>
  split at h
  . obtain⟨ti,hti,h⟩:=aa.1 h
    split at h
    . rename_i fs hd
      obtain⟨f,hf,h⟩:=aa.1 h
      exact rQ hT ho hti hd hf h
    . cases h
  . cases h
 case h_10 ho=>
  split at h
  . obtain⟨ti,hti,h⟩:=aa.1 h
    split at h
    . rename_i fs hd
      obtain⟨f,hf,h⟩:=aa.1 h
      obtain⟨fi,hfi,h⟩:=aa.1 h
      exact DA hT ho hti hd hf hfi h
    . cases h
  . cases h
 case h_11 ho=>
  obtain⟨ti,hti,h⟩:=aa.1 h
  obtain⟨cs,hcs,h⟩:=aa.1 h
  exact Dx hT ho hti h hcs
 case h_12 ho=>
  obtain⟨vs,hvs,h⟩:=aa.1 h
  exact tB ho hvs h
 case h_13 ho=>
  obtain⟨ti,hti,h⟩:=aa.1 h
  exact Dw hT ho hti h
 case h_14 ho=>
  split at h
  . obtain⟨cs,hcs,h⟩:=aa.1 h
    exact Mf ho hcs h
  . cases h
 case h_15 ho=>split at h;exact Hl hT ho h;cases h
 case h_16 ho=>split at h;exact DD hT ho h;cases h
 case h_17 ho=>
  split at h
  . obtain⟨i,hi,h⟩:=aa.1 h
    exact rR hT ho hi h
  . cases h
 case h_18 ho=>
  obtain⟨ti,hti,h⟩:=aa.1 h
  split at h
  . rename_i hd _
    obtain⟨i,hi,h⟩:=aa.1 h
    obtain⟨c,hc,h⟩:=aa.1 h
    have htd:=(hT.ty _ ti hti).td
    rw[hd]at htd
    exact DB ho htd hi hc h
  . rename_i hd _
    obtain⟨ei,hei,h⟩:=aa.1 h
    obtain⟨i,hi,h⟩:=aa.1 h
    have htd:=(hT.ty _ ti hti).td
    rw[hd]at htd
    split at h
    . rename_i h1 h2 h3
      obtain⟨u,hc,hk⟩:=aa.1 h
      have h1:=ah h1
      subst h1
      exact JW hT ho htd hei (ah h2) h3 hi (gi hc) hk
    . cases h
  . cases h
 case h_19 ho=>
  split at h
  . obtain⟨⟨a1,a2⟩,ha,h⟩:=aa.1 h
    obtain⟨⟨b1,b2⟩,hb,h⟩:=aa.1 h
    obtain⟨⟨c1,c2⟩,hc,h⟩:=aa.1 h
    split at h
    . split at h
      . exact Qs hT ho ha hb hc h
      . exact JY hT ho ha hb hc h
    . exact JZ hT ho ha hb hc h
    . split at h
      . exact WQ hT ho ha hb hc h
      . exact ok_slice hT ho ha hb hc h
  . cases h
 case h_20 ho=>
  obtain⟨ec,hec,h⟩:=aa.1 h
  obtain⟨ei,hei,h⟩:=aa.1 h
  exact p7 hT ho hec hei h
 case h_21 ho=>
  split at h
  . split at h
    . rename_i i hi
      exact wh hT ho hi h
    . split at h
      . rename_i i hi
        exact JV hT ho hi h
      . obtain⟨i,hi,h⟩:=aa.1 h
        exact JX hT ho hi h
  . cases h
 case h_22 ho=>
  split at h
  . split at h
    . exact zL hT ho h
    . split at h
      . exact Tq hT ho h
      . exact Mi hT ho h
    . exact Mj hT ho h
  . cases h
 case h_23 ho=>split at h;exact tC hT ho h;cases h
 case h_24 ho=>split at h;exact ET hT ho h;cases h
 case h_25 ho=>
  split at h
  . split at h
    . exact Hm hT ho h
    . split at h
      . exact WN hT ho h
      . cases h
    . exact Ou hT (.inl ho) h
  . cases h
 case h_26 ho=>split at h;exact DC hT ho h;cases h
 case h_27 ho=>split at h;exact Dz hT ho h;cases h
 case h_28 ho=>
  split at h
  . rename_i hxy
    obtain⟨n,hn,h⟩:=aa.1 h
    obtain⟨ec,hec,h⟩:=aa.1 h
    obtain⟨ei,hei,h⟩:=aa.1 h
    split at h
    . rename_i h1 hA
      obtain⟨z,hz,h⟩:=aa.1 h
      obtain⟨u,hu,h⟩:=aa.1 h
      exact rS hT ho hxy hn hec hei h1 hA hz hu h
    . cases h
  . cases h
 case h_29 c ho=>
  split at h
  . rename_i b hb
    obtain⟨ce,ca,cts⟩:=c
    simp only at hb
    subst hb
    split at h
    . split at h
      . rename_i t ht
        obtain⟨x,hx⟩:=Ho rfl ho hl rfl
        simp only at hx ht
        subst hx
        have:cts= #[t]:=by apply Array.ext';simpa using ht
        subst this
        exact Zu hT ho h
      . cases h
    . split at h
      . rename_i t t' ht
        split at h
        . rename_i he
          obtain rfl:=ah he
          obtain⟨x,y,hx⟩:=qQ rfl ho hl rfl
          simp only at hx ht
          subst hx
          have:cts= #[t,t]:=by apply Array.ext';simpa using ht
          subst this
          split at h
          . exact Md hT ho h
          . exact zI hT ho h
        . obtain⟨x,y,hx⟩:=qQ rfl ho hl rfl
          simp only at hx ht
          subst hx
          have:cts= #[t,t']:=by apply Array.ext';simpa using ht
          subst this
          exact Me hT ho h
      . cases h
    . split at h
      . rename_i t t' ht
        obtain⟨x,y,hx⟩:=qQ rfl ho hl rfl
        simp only at hx ht
        subst hx
        have:cts= #[t,t']:=by apply Array.ext';simpa using ht
        subst this
        exact Hk hT ho h
      . cases h
    . split at h
      . rename_i t ht
        obtain⟨x,hx⟩:=Ho rfl ho hl rfl
        simp only at hx ht
        subst hx
        have:cts= #[t]:=by apply Array.ext';simpa using ht
        subst this
        exact Dy hT ho h
      . cases h
    . split at h
      . rename_i t t' ht
        obtain⟨x,y,hx⟩:=qQ rfl ho hl rfl
        simp only at hx ht
        subst hx
        have:cts= #[t,t']:=by apply Array.ext';simpa using ht
        subst this
        exact zJ hT ho h
      . cases h
    . split at h
      . rename_i t ht
        obtain⟨ec,hec,h1⟩:=aa.1 h
        obtain⟨x,hx⟩:=Ho rfl ho hl rfl
        simp only at hx ht
        subst hx
        have:cts= #[t]:=by apply Array.ext';simpa using ht
        subst this
        exact Zt hT ho hec h1
      . cases h
    . obtain⟨p,hp,h⟩:=aa.1 h
      obtain⟨q,hq,h⟩:=aa.1 h
      split at h
      . rename_i hk _
        obtain⟨x,y,hx⟩:=qQ rfl ho hl rfl
        simp only at hx
        subst hx
        exact Zw ho hp hq h hk
      . cases h
    . obtain⟨p,hp,h⟩:=aa.1 h
      obtain⟨q,hq,h⟩:=aa.1 h
      split at h
      . rename_i hk _
        obtain⟨x,y,hx⟩:=qQ rfl ho hl rfl
        simp only at hx
        subst hx
        exact Zv ho hp hq h hk
      . cases h
    . cases h
  . rename_i y hy
    obtain⟨ce,ca,cts⟩:=c
    simp only at hy
    subst hy
    split at h
    . split at h
      . rename_i hb
        exact Hj hΦ ho (aj hb) h
      . cases h
    . obtain⟨a,_,h⟩:=aa.1 h
      split at h
      . exact Tu hΦ ho h
      . cases h
    . cases h
  . cases h
 case h_30 ho=>split at h;exact Ou hT (.inr ho) h;cases h
 case h_31=>cases h
theorem Wl{v:CV S}{k:Bool->Option γ}{δ:Type}{j:Bool->Option δ}{f:δ->Option γ}(h:∀b,k b=(j b).bind f):Y4 v k=(Y4 v j).bind f:=by
 unfold Y4;split
 . exact h _
 . split<;>exact h _
 . rfl
theorem bind_eq{α β:Type}{x:Option α}{f g:α->Option β}(h:∀a,f a=g a):x.bind f=x.bind g:=by cases x;rfl;exact h _
theorem Xt{op:UnOp}{v:CV S}:Z0 op v k=(Z0 op v some).bind k:=by
 unfold Z0;(repeat' (first|rfl|(simp only[aD,ae,aI])|(refine bind_eq fun _=>?_)|split))
theorem LF{f:TypeId×Nat×Nat}{v:CV S}:vX f v k=(vX f v some).bind k:=by
 unfold vX;(repeat' (first|rfl|(simp only[aD,ae,aI])|(refine bind_eq fun _=>?_)|split))
theorem PQ{s d:TypeId}{v:CV S}:E7 tt s d v ob k=(E7 tt s d v ob some).bind k:=by
 unfold E7;(repeat' (first|rfl|(simp only[aD,ae,aI])|(refine bind_eq fun _=>?_)|split))
theorem SY{t:TypeId}{v:CV S}:Qg tt t v ob k=(Qg tt t v ob some).bind k:=by
 unfold Qg;(repeat' (first|rfl|(simp only[aD,ae,aI])|(refine bind_eq fun _=>?_)|split))
theorem IP{t:TypeId}{v w:CV S}:um tt fa t v w ob ct k=(um tt fa t v w ob ct some).bind k:=by
 unfold um;(repeat' (first|rfl|(simp only[aD,ae,aI])|(refine bind_eq fun _=>?_)|split))
theorem Gj{t tx:TypeId}{v w:CV S}:ql tb tt t tx v w ob ct k=(ql tb tt t tx v w ob ct some).bind k:=by
 unfold ql;(repeat' (first|rfl|(simp only[aD,ae,aI])|(refine bind_eq fun _=>?_)|split))
theorem D7{t:TypeId}{v:CV S}{a b c:Option Int}:wx tt t v a b c ob ct k=(wx tt t v a b c ob ct some).bind k:=by
 unfold wx;(repeat' (first|rfl|(simp only[aD,ae,aI])|(refine bind_eq fun _=>?_)|split))
theorem QS{t:TypeId}{l:List UInt8}{a b c:Option Int}:F1 tt t l a b c k=(F1 tt t l a b c some).bind k:=by
 unfold F1;(repeat' (first|rfl|(simp only[aD,ae,aI])|(refine bind_eq fun _=>?_)|split))
theorem Lf{t:TypeId}{v:CV S}:zf tb tt t v ob k=(zf tb tt t v ob some).bind k:=by
 unfold zf;(repeat' (first|rfl|(simp only[aD,ae,aI])|(refine bind_eq fun _=>?_)|split))
theorem Gi{t:TypeId}{q:Nat}{d:Co}{l:List (T S d)}{o off n:Nat}{i j:Int}:qj tt t q d l o off n i j ob ct k=(qj tt t q d l o off n i j ob ct some).bind k:=by
 unfold qj;(repeat' (first|rfl|(simp only[aD,ae,aI])|(refine bind_eq fun _=>?_)|split))
theorem Kj{t:TypeId}{o off:Nat}{lo hi mx:Option Int}:uW tt t o off lo hi mx ob k=(uW tt t o off lo hi mx ob some).bind k:=by
 unfold uW;(repeat' (first|rfl|(simp only[aD,ae,aI])|(refine bind_eq fun _=>?_)|split))
theorem Qu{t:TypeId}{v:CV S}{a b c:Option Int}:FP tt t v a b c ob ct k=(FP tt t v a b c ob ct some).bind k:=by
 unfold FP;split
 . (repeat' (first|rfl|(simp only[aD,ae,aI])|(refine bind_eq fun _=>?_)|split))
 . exact D7
theorem Kk{t:TypeId}{o off:Nat}{a b c:Option Int}:uX tt t o off a b c k=(uX tt t o off a b c some).bind k:=by
 unfold uX;(repeat' (first|rfl|(simp only[aD,ae,aI])|(refine bind_eq fun _=>?_)|split))
theorem PT{t:TypeId}{v w:CV S}:Fa tt t v w ob k=(Fa tt t v w ob some).bind k:=by
 unfold Fa Gx;(repeat' (first|rfl|(simp only[aD,ae,aI])|(refine bind_eq fun _=>?_)|split))
theorem LP{t:TypeId}{y:Operand}{v:CV S}{i:Int}:zu tt t y v i ob k=(zu tt t y v i ob some).bind k:=by
 unfold zu;(repeat' (first|rfl|(simp only[aD,ae,aI])|(refine bind_eq fun _=>?_)|split))
theorem Qi{t:TypeId}{v:CV S}:Fz tb tt t v ob k=(Fz tb tt t v ob some).bind k:=by
 unfold Fz uI;(repeat' (first|rfl|(simp only[aD,ae,aI])|(refine bind_eq fun _=>?_)|split))
theorem MI{t:TypeId}{p:CV S}{a:AV S}:Ai tb tt t p a ob k=(Ai tb tt t p a ob some).bind k:=by
 unfold Ai;(repeat' (first|rfl|(simp only[aD,ae,aI])|(refine bind_eq fun _=>?_)|split))
theorem Ti{op:BinOp}{kv kw:IntKind}{x z:Int}{y:Operand}{k:CV S->Option γ}{δ:Type}{j:CV S->Option δ}{f:δ->Option γ}(h:∀v,k v=(j v).bind f):pZ op kv kw x z y k=(pZ op kv kw x z y j).bind f:=by
 unfold pZ;simp only[h];(repeat' (first|rfl|(simp only[aD,ae,aI])|(refine bind_eq fun _=>?_)|split))
theorem NP{op:BinOp}{t:TypeId}{a b:AV S}{k:CV S->Option γ}{δ:Type}{j:CV S->Option δ}{f:δ->Option γ}(h:∀v,k v=(j v).bind f):Yy tt op t a b k=(Yy tt op t a b j).bind f:=by
 unfold Yy n9;simp only[h];(repeat' (first|rfl|(simp only[aD,ae,aI])|(refine bind_eq fun _=>?_)|split))
theorem RI{op:BinOp}{t:TypeId}{y:Operand}{a b:AV S}{k:CV S->Option γ}{δ:Type}{j:CV S->Option δ}{f:δ->Option γ}(h:∀v,k v=(j v).bind f):PJ tt op t y a b k=(PJ tt op t y a b j).bind f:=by
 unfold PJ;split
 . split
   . exact Ti h
   . exact NP h
 . exact NP h
theorem IM{δ:Type}{f:δ->Option γ}:∀{os:List Out} {y:jo S os} {k:(o:Out)->HT S o.vm->Option γ} {j:(o:Out)->HT S o.vm->Option δ},(∀o z,k o z=(j o z).bind f)->Vu os y k=(Vu os y j).bind f
 |[],_,_,_,_=>rfl
 |[o],y,_,_,h=>h o y
 |o::_::_,Sum.inl z,_,_,h=>h o z
 |_::p::os,Sum.inr _,_,_,h=>IM (os:=p::os) h
theorem nI{f:FuncId}{args:List (AV S)}:∀{Φ:List (dS S)},o8 tb f args ob ct k Φ=(o8 tb f args ob ct some Φ).bind k
 |[]=>rfl
 |c::cs=>by
  simp only[o8];split
  . exact nI
  . split
    . exact nI
    . rw[aD];refine bind_eq fun y=>IM fun o z=>?_
      split
      . rfl
      . rfl
theorem Qj{t:TypeId}{v:CV S}{key:AV S}{c:Bool}:FB tb tt t v key c ob k=(FB tb tt t v key c ob some).bind k:=by
 unfold FB;(repeat' (first|rfl|(simp only[aD,ae,aI])|(refine bind_eq fun _=>?_)|split))
theorem TC{t:TypeId}{v:CV S}{key w:AV S}:mf tb tt t v key w ob k=(mf tb tt t v key w ob some).bind k:=by
 unfold mf;(repeat' (first|rfl|(simp only[aD,ae,aI])|(refine bind_eq fun _=>?_)|split))
theorem R9{t:TypeId}{v:CV S}{key:AV S}:PW tb tt t v key ob k=(PW tb tt t v key ob some).bind k:=by
 unfold PW;(repeat' (first|rfl|(simp only[aD,ae,aI])|(refine bind_eq fun _=>?_)|split))
theorem LK{t:TypeId}{v:CV S}{key:AV S}{c:Bool}:zp tb tt t v key c ob k=(zp tb tt t v key c ob some).bind k:=by
 unfold zp;(repeat' (first|rfl|(simp only[aD,ae,aI])|(refine bind_eq fun _=>?_)|split))
theorem Qn{t:TypeId}{v:CV S}{key:AV S}:FH tb tt t v key ob ct k=(FH tb tt t v key ob ct some).bind k:=by
 unfold FH;(repeat' (first|rfl|(simp only[aD,ae,aI])|(refine bind_eq fun _=>?_)|split))
theorem Mo{t:TypeId}{v:CV S}:zT tb tt t v ob ct k=(zT tb tt t v ob ct some).bind k:=by
 unfold zT;(repeat' (first|rfl|(simp only[aD,ae,aI])|(refine bind_eq fun _=>?_)|split))
theorem Lq{v:CV S}:zj tb tt v ob k=(zj tb tt v ob some).bind k:=by
 unfold zj;(repeat' (first|rfl|(simp only[aD,ae,aI])|(refine bind_eq fun _=>?_)|split))
theorem Si{t:TypeId}{v s:CV S}{w:AV S}:P2 tb tt t v s w ob k=(P2 tb tt t v s w ob some).bind k:=by
 unfold P2;(repeat' (first|rfl|(simp only[aD,ae,aI])|(refine bind_eq fun _=>?_)|split))
theorem LN{t:TypeId}{v:CV S}{key:AV S}{c:Bool}:zt tb tt t v key c ob ct k=(zt tb tt t v key c ob ct some).bind k:=by
 unfold zt;(repeat' (first|rfl|(simp only[aD,ae,aI])|(refine bind_eq fun _=>?_)|split))
theorem Qc{t:TypeId}{v w:CV S}{key:AV S}:Fs tb tt t v key w ob k=(Fs tb tt t v key w ob some).bind k:=by
 unfold Fs N4;(repeat' (first|rfl|(simp only[aD,ae,aI])|(refine bind_eq fun _=>?_)|split))
theorem Fy{t:TypeId}{v:CV S}{key w:AV S}:Di tb tt t v key w ob k=(Di tb tt t v key w ob some).bind k:=by
 unfold Di;(repeat' (first|rfl|(simp only[aD,ae,aI])|(refine bind_eq fun _=>?_)|split))
theorem Fv{q:Nat}{c:Co}{x:T S c}:∀{l:List (T S c×CV S)},Dh tb q c x k l=(Dh tb q c x some l).bind k
 |[]=>rfl
 |p::l=>by
  unfold Dh;split
  . rfl
  . exact Fv
theorem LR{t:TypeId}{v:CV S}{key:AV S}{c:Bool}:zy tb tt t v key c ob k=(zy tb tt t v key c ob some).bind k:=by
 unfold zy;(repeat' (first|rfl|exact Fv|(simp only[aD,ae,aI])|(refine bind_eq fun _=>?_)|split))
theorem xd:core tb tt Φ fa o xs ob ct k=(core tb tt Φ fa o xs ob ct some).bind k:=by
 unfold core;split
 case h_3=>
  split
  . exact Wl fun b=>by cases b<;>rfl
  . rfl
 case h_6=>
  split
  . exact RI fun v=>rfl
  . rfl
 case h_7=>split;exact Xt;rfl
 case h_8=>split;exact PQ;rfl
 case h_9=>
  split
  . rw[aD]
    refine bind_eq fun ti=>?_
    split
    . rw[aD];exact bind_eq fun f=>LF
    . rfl
  . rfl
 case h_15=>split;exact Qi;rfl
 case h_16=>split;exact MI;rfl
 case h_17=>split;(rw[aD];exact bind_eq fun i=>LP);rfl
 case h_19=>split;(simp only[aD];exact bind_eq fun a=>bind_eq fun b=>bind_eq fun c=>by split;split;exact Kj;exact Kk;exact QS;split;exact Qu;exact D7);rfl
 case h_22=>
  split
  . split
    . exact Qj
    . split
      . exact LN
      . exact LK
    . exact LR
  . rfl
 case h_23=>split;exact Qn;rfl
 case h_24=>split;exact Si;rfl
 case h_25=>
  split
  . split
    . exact TC
    . split
      . exact Qc
      . rfl
    . exact Fy
  . rfl
 case h_26=>split;exact Mo;rfl
 case h_27=>split;exact Lq;rfl
 case h_29=>
  split
  . split
    . split;exact SY;rfl
    . split
      . split
        . split;exact Gi;exact IP
        . exact Gj
      . rfl
    . split;exact PT;rfl
    . split;exact Lf;rfl
    . split;exact R9;rfl
    . split
      . rw[aD];exact bind_eq fun _=>rfl
      . rfl
    . (repeat' (first|rfl|(simp only[aD,ae,aI])|(refine bind_eq fun _=>?_)|split))
    . (repeat' (first|rfl|(simp only[aD,ae,aI])|(refine bind_eq fun _=>?_)|split))
    . rfl
  . split
    . split;exact nI;rfl
    . rw[aD]
      refine bind_eq fun a=>?_
      split
      . exact nI
      . rfl
    . rfl
  . rfl
 case h_30=>split;exact Fy;rfl
 all_goals (repeat' (first|rfl|(simp only[aD,ae,aI])|(refine bind_eq fun _=>?_)|split))
end E
end
section
open Go.RowKit G
namespace E
variable {S:Nat->Type}{tb:Tb S}{K:ep tb}{P:Program}{tt:TypeId->Option (TI S)}{g:GG S}{m:Mem}
structure Cx where
 d:List Deferred
 X:List bR
structure Inv(K:ep tb)(n:Nat)(ds:Cx)(B:List Nat)(m0:Mem)(rb:Nat->Option Gh)(σ:AS S)(g:GG S)(a:Act)(m:Mem)(L:List bR):Prop where
 size:a.tmps.size=n
 defers:a.defers=ds.d
 at_:∀t bT v,look (σ.fb+t) σ.tm=some (bT,v)->g.vv bT=some (a.eval (.tmp t))
 tm:∀s bT v,look s σ.tm=some (bT,v)->∃u,g.vv bT=some u/\bP K g m v u
 ob:eW K g m σ.ob L
 st:St B m0 m (L++ds.X)
 fresh:∀i,σ.ct<=i->g.bk i=none/\g.vv i=none/\g.oo i=none
 rt:K.B m0/\∀(j q:Nat),σ.rt[j]?=some q->∃h,rb j=some h/\g.bk q=some h
theorem CD{v:Value}{c:CV S}(h:BJ v=some c):bM K g m c [v]:=by
 unfold BJ at h;split at h<;>first|(cases h;done)|skip
 . split at h
   . rename_i n hn _;cases h;simp only[bM];rw[oO,hn]
   . cases h
 all_goals (cases h;simp only[bM])
theorem tc:∀{vs:List Value} {cs:List (CV S)},qt vs=some cs->cJ K g m cs vs
 |[],cs,h=>by simp only[qt,af]at h;subst h;rfl
 |v::vs,cs,h=>by
  simp only[qt]at h;obtain⟨x,hx,h⟩:=aa.1 h;obtain⟨r,hr,rfl⟩:=ab.1 h;exact⟨[v],vs,rfl,CD hx,tc hr⟩
theorem YF{v w:Value}(h:Sh v w=true):v=w:=by
 unfold Sh at h;split at h<;>first|rfl|(cases h;done)|skip
 . simp only[al,aJ]at h;obtain⟨rfl,rfl⟩:=h;rfl
 . simp only[beq_iff_eq]at h;subst h;rfl
 . rename_i s s';simp only[aJ]at h;obtain⟨⟨l⟩⟩:=s;obtain⟨⟨l'⟩⟩:=s';simp only at h;subst h;rfl
theorem NR:∀{vs ws:List Value},P1 vs ws=true->vs=ws
 |[],[],_=>rfl
 |[],_::_,h=>by simp[P1]at h
 |_::_,[],h=>by simp[P1]at h
 |v::vs,w::ws,h=>by
  simp only[P1]at h;split at h
  . rename_i hv;rw[YF hv,NR h]
  . cases h
theorem CC(hT:dx P K tt){t:TypeId}{v:Value}{x:AV S}(h:Gu tt t v=some x):bP K g m x v:=by
 unfold Gu at h;split at h
 . rename_i cs;split at h
   . rename_i i hi;split at h
     . rename_i he;cases h;simp only[bP];refine⟨cs.toList,by simp,?_⟩;rw[<- NR he];exact kQ (hT.ty t i hi).VO
     . obtain⟨l,hl,rfl⟩:=ab.1 h;simp only[bP];exact⟨cs.toList,by simp,tc hl⟩
   . obtain⟨l,hl,rfl⟩:=ab.1 h;simp only[bP];exact⟨cs.toList,by simp,tc hl⟩
 . rename_i vs;split at h
   . rename_i hv;cases h;simp only[AV.gH,bP,db];exact⟨[],by rw[<- hv],rfl⟩
   . cases h
 . obtain⟨l,hl,rfl⟩:=ab.1 h;simp only[bP];exact CD hl
section
variable {n:Nat}{ds:Cx}{B:List Nat}{m0:Mem}{rb:Nat->Option Gh}{σ:AS S}{a:Act}{L:List bR}
theorem Inv.slot(hI:Inv K n ds B m0 rb σ g a m L){t:Tmp}{bT:Nat}{v:AV S}(h:σ.get t=some (bT,v)):g.vv bT=some (a.eval (.tmp t))/\bP K g m v (a.eval (.tmp t)):=by
 have h1:=hI.at_ _ _ _ h;obtain⟨u,h2,h3⟩:=hI.tm _ _ _ h;rw[h1]at h2;cases h2;exact⟨h1,h3⟩
theorem DG(hT:dx P K tt)(hI:Inv K n ds B m0 rb σ g a m L){t:TypeId}{x:Operand}{v:AV S}(h:pz tt σ t x=some v):bP K g m v (a.eval x):=by
 cases x with
 |tmp u=>
  simp only[pz]at h
  obtain⟨⟨bT,v'⟩,hp,rfl⟩:=ab.1 h
  exact(hI.slot hp).2
 |const c=>exact CC hT h
 |func f=>
  simp only[pz,af]at h
  subst h
  simp only[bP,bM]
  exact⟨[],[],rfl,by simp only[iK],by simp only[iK]⟩
 |global _=>simp[pz]at h
theorem Hq(hT:dx P K tt)(hI:Inv K n ds B m0 rb σ g a m L):∀{l:List Operand} {ts:List TypeId} {xs:List (AV S)},qM tt σ ts l=some xs->oT K g m a l xs/\xs.length=l.length
 |[],ts,xs,h=>by simp only[qM,af]at h;subst h;exact⟨rfl,rfl⟩
 |x::l,[],xs,h=>by
  simp only[qM]at h;obtain⟨v,hv,h⟩:=aa.1 h;obtain⟨r,hr,rfl⟩:=ab.1 h;obtain⟨k1,k2⟩:=Hq hT hI hr;exact⟨⟨v,r,rfl,DG hT hI hv,k1⟩,by simp[k2]⟩
 |x::l,t::ts,xs,h=>by
  simp only[qM]at h;obtain⟨v,hv,h⟩:=aa.1 h;obtain⟨r,hr,rfl⟩:=ab.1 h;obtain⟨k1,k2⟩:=Hq hT hI hr;exact⟨⟨v,r,rfl,DG hT hI hv,k1⟩,by simp[k2]⟩
theorem rM{bT:Nat}{b:Bool}:∀{l:List (Nat×Nat×AV S)} {s:Nat},look s (Kg bT b l)=(look s l).map fun x=>if x.1=bT then(x.1,.one (.tt b))else x
 |[],s=>rfl
 |(t,v,x)::l,s=>by
  unfold Kg;split
  . rename_i e;obtain rfl:=ah e;rw[bN,bN];by_cases h:t=s
    . rw[if_pos h,if_pos h];simp
    . rw[if_neg h,if_neg h];exact rM
  . rename_i e;have e:v≠bT:=Nat.ne_of_beq_eq_false e;rw[bN,bN];by_cases h:t=s
    . rw[if_pos h,if_pos h];simp[e]
    . rw[if_neg h,if_neg h];exact rM
theorem pC(hI:Inv K n ds B m0 rb σ g a m L){bT:Nat}{b:Bool}(h:g.vv bT=some (.bool b)):Inv K n ds B m0 rb (σ.jm bT b) g a m L:=by
 have key:∀s vid' v,look s (σ.jm bT b).tm=some (vid',v)->∃v0,look s σ.tm=some (vid',v0)/\(v=v0\/vid'=bT/\v=.one (.tt b)):=fun s vid' v hs=>by
  unfold AS.jm at hs;rw[rM]at hs;obtain⟨⟨vid0,v0⟩,h0,h1⟩:=ab.1 hs;by_cases e:vid0=bT
  . rw[if_pos e]at h1;cases h1;exact⟨v0,h0,.inr ⟨e,rfl⟩⟩
  . rw[if_neg e]at h1;cases h1;exact⟨_,h0,.inl rfl⟩
 refine⟨hI.size,hI.defers,fun t vid' v hs=>?_,fun s vid' v hs=>?_,hI.ob,hI.st,hI.fresh,hI.rt⟩
 . obtain⟨v0,h0,_⟩:=key _ _ _ hs;exact hI.at_ _ _ _ h0
 . obtain⟨v0,h0,h1⟩:=key _ _ _ hs;rcases h1 with rfl|⟨rfl,rfl⟩
   . exact hI.tm _ _ _ h0
   . exact⟨_,h,by simp only[bP,bM]⟩
theorem SU(hI:Inv K n ds B m0 rb σ g a m L)(t:Tmp):Kn n a [(t,a.eval (.tmp t))] ds.d:=⟨hI.size,hI.defers,Ke.cons rfl (Ke.nil a)⟩
theorem Qd{γ:Type}{ops:Array Oper}{o:Oper}{go:Bool->AS S->Option γ}{z:γ}(hI:Inv K n ds B m0 rb σ g a m L)(h:tp ops o.guard σ go=some z):
 ∃run σ',go run σ'=some z/\Inv K n ds B m0 rb σ' g a m L/\Region.wanted o (yielded ops a.tmps)=run:=by
 cases hg:o.guard with
 |none=>rw[hg]at h;exact⟨true,σ,h,hI,by simp[Region.wanted,hg]⟩
 |some jb=>
  obtain⟨j,b⟩:=jb
  rw[hg]at h
  simp only[tp]at h
  split at h
  . rename_i bT v hv
    obtain⟨t,ht,hv⟩:=aa.1 hv
    obtain⟨h1,h2⟩:=hI.slot hv
    simp only[bP]at h2
    have yes:∀c,a.eval (.tmp t)=.bool c->(c == b)=true->Region.wanted o (yielded ops a.tmps)=true:=fun c hc hcb=>
     Ao (SU hI t) (by simp only[tq,hg,ht,lk,beq_self_eq_true,Nat.beq_refl,hc];exact hcb)
    have no:∀c,a.eval (.tmp t)=.bool c->(c !=b)=true->Region.wanted o (yielded ops a.tmps)=false:=fun c hc hcb=>
     mP (SU hI t) (by simp only[rD,hg,ht,lk,Nat.beq_refl,hc];exact hcb)
    split at h
    . rename_i c _
      simp only[bM,bc,and_true]at h2
      refine⟨_,σ,h,hI,?_⟩
      cases hcb:c == b with
      |true=>exact yes c h2 hcb
      |false=>exact no c h2 (by simp[bne,hcb])
    . rename_i c p d hcp _
      simp only[bM,bc,and_true]at h2
      split at h
      . rename_i hp
        have hc:=hcp.2 hp
        subst hc
        refine⟨_,_,h,pC hI (by rw[h1,h2]),?_⟩
        cases b with
        |true=>exact yes _ h2 rfl
        |false=>exact no _ h2 rfl
      . rename_i hp
        have hc:c=false:=by cases hc:c with|false=>rfl|true=>exact absurd (hcp.1 hc) hp
        subst hc
        refine⟨_,_,h,pC hI (by rw[h1,h2]),?_⟩
        cases b with
        |true=>exact no _ h2 rfl
        |false=>exact yes _ h2 rfl
    . cases h
  . rename_i bT hv
    obtain⟨t,ht,hv⟩:=aa.1 hv
    obtain⟨h1,h2⟩:=hI.slot hv
    simp only[bP,db]at h2
    obtain⟨l,h2,rfl⟩:=h2
    refine⟨_,σ,h,hI,mP (SU hI t) ?_⟩
    simp only[rD,hg,ht,lk,Nat.beq_refl,h2]
  . cases h
theorem iz{α:Type}:∀{l:List (Nat×α)} {s t:Nat},t≠s->look t (qz s l)=look t l
 |[],s,t,_=>rfl
 |(u,x)::l,s,t,h=>by
  unfold qz;split
  . rename_i e;obtain rfl:=ah e;rw[bN,if_neg (Ne.symm h)]
  . rw[bN,bN,iz h]
theorem TF(hI:Inv K n ds B m0 rb σ g a m L){ob':List (Nat×Nat×AO S)}{L':List bR}{g':GG S}{m':Mem}{d:Option Tmp}{mv:Option Nat}{v:AV S}{u:Value}(hd:∀t,d=some t->t<n)(hge:GE g g')(hle:Le m m')
 (hob:eW K g' m' ob' L') (hst:St B m0 m' (L'++ds.X)) (hv:bP K g' m' v u) (hvid:g'.vv (mv.getD σ.ct)=some u) (hf:∀i,σ.ct+64<=i->g'.bk i=none/\g'.vv i=none/\g'.oo i=none):
 Inv K n ds B m0 rb {σ.put d mv v with ob:=ob',ct:=σ.ct+64} g' (a.put d u) m' L':=by
 have old:∀s bT x,look s σ.tm=some (bT,x)->∃y,g'.vv bT=some y/\bP K g' m' x y:=fun s bT x hs=>by
  obtain⟨y,h1,h2⟩:=hI.tm _ _ _ hs;exact⟨y,hge.vv _ _ h1,h2.mono hge hle⟩
 have hrt:K.B m0/\∀(j q:Nat),σ.rt[j]?=some q->∃h,rb j=some h/\g'.bk q=some h:=⟨hI.rt.1,fun j q hj=>by
  obtain⟨h,h1,h2⟩:=hI.rt.2 j q hj;exact⟨h,h1,hge.bk _ _ h2⟩⟩
 cases d with
 |none=>exact⟨hI.size,hI.defers,fun t bT x hs=>hge.vv _ _ (hI.at_ t bT x hs),old,hob,hst,hf,hrt⟩
 |some d=>
  have hdn:=hd d rfl
  refine⟨by simp[Act.put,hI.size],hI.defers,fun t bT x hs=>?_,fun s bT x hs=>?_,hob,hst,hf,hrt⟩
  . have hs':look (σ.fb+t) ((σ.fb+d,mv.getD σ.ct,v)::qz (σ.fb+d) σ.tm)=some (bT,x):=hs
    rw[bN]at hs'
    by_cases e:σ.fb+d=σ.fb+t
    . rw[if_pos e]at hs'
      cases hs'
      have e:d=t:=Nat.add_left_cancel e
      subst e
      rw[D.iU (by rw[hI.size];exact hdn)]
      exact hvid
    . rw[if_neg e,iz (Ne.symm e)]at hs'
      rw[Act.eval_put (fun d' hd' e'=>by cases hd';cases e';exact e rfl)]
      exact hge.vv _ _ (hI.at_ _ _ _ hs')
  . have hs':look s ((σ.fb+d,mv.getD σ.ct,v)::qz (σ.fb+d) σ.tm)=some (bT,x):=hs
    rw[bN]at hs'
    by_cases e:σ.fb+d=s
    . rw[if_pos e]at hs'
      cases hs'
      exact⟨u,hvid,hv⟩
    . rw[if_neg e,iz (Ne.symm e)]at hs'
      exact old _ _ _ hs'
end
abbrev ZL(S:Nat->Type):=List ((Nat×Nat×AO S)×bR)
def zR(K:ep tb)(g:GG S)(m:Mem)(p:(Nat×Nat×AO S)×bR):Prop:=g.oo p.1.2.1=some (p.1.2.2,p.2)/\iY K g m p.1.1 p.1.2.2 p.2
theorem py:∀{ob:List (Nat×Nat×AO S)} {L:List bR},eW K g m ob L->∃z:ZL S,z.map Prod.fst=ob/\z.map Prod.snd=L/\∀p∈z,zR K g m p
 |[],L,h=>⟨[],rfl,h.symm,fun p hp=>by cases hp⟩
 |x::ob,L,h=>by
  obtain⟨e,L',rfl,h1,h2,h3⟩:=h;obtain⟨z,rfl,rfl,k⟩:=py h3;exact⟨(x,e)::z,rfl,rfl,fun p hp=>by
   rcases aB.1 hp with rfl|hp
   . exact⟨h1,h2⟩
   . exact k p hp⟩
theorem nF:∀{z:ZL S},(∀p∈z,zR K g m p)->eW K g m (z.map Prod.fst) (z.map Prod.snd)
 |[],_=>rfl
 |p::z,h=>⟨p.2,_,rfl,(h p aq).1,(h p aq).2,nF fun q hq=>h q (au _ hq)⟩
def pr(z:ZL S)(q:Nat):Option ((Nat×Nat×AO S)×bR):=z.find? fun p=>Nat.beq p.1.1 q
def eh(z:ZL S)(l:List Nat):ZL S:=l.filterMap (pr z)
theorem nK{q:Nat}:∀{z:ZL S},look q (z.map Prod.fst)=(pr z q).map (·.1.2)
 |[]=>rfl
 |((u,x),e)::z=>by
  simp only[aF,bN,pr,List.find?_cons];by_cases h:u=q
  . subst h;simp
  . rw[if_neg h,mT h];exact nK
theorem gC{q:Nat}{z:ZL S}{p:(Nat×Nat×AO S)×bR}(h:pr z q=some p):p∈z/\p.1.1=q:=
 ⟨List.mem_of_find?_eq_some h,ah (by have:=List.find?_some (p:=fun p:(Nat×Nat×AO S)×bR=>Nat.beq p.1.1 q) h;exact this)⟩
theorem mc{z:ZL S}:∀{l:List Nat},(eh z l).map Prod.fst=pick (z.map Prod.fst) l
 |[]=>rfl
 |q::l=>by
  simp only[eh,List.filterMap_cons,pick,nK]
  cases h:pr z q with
  |none=>exact mc
  |some p=>
   obtain⟨_,rfl⟩:=gC h
   simp only[aF,ak]
   rw[<- mc];rfl
theorem xK{f:Nat->Bool}{q:Nat}(hq:f q=true):∀{z:ZL S},pr (z.filter fun p=>f p.1.1) q=pr z q
 |[]=>rfl
 |p::z=>by
  by_cases h:p.1.1=q
  . rw[List.filter_cons_of_pos (by rw[h];exact hq)];simp[pr,h]
  . have hb:Nat.beq p.1.1 q=false:=mT h;have ih:=xK hq (z:=z)
    cases hf:f p.1.1 with
    |true=>rw[List.filter_cons_of_pos (p:=fun p:(Nat×Nat×AO S)×bR=>f p.1.1) hf];simp only[pr,List.find?_cons,hb];exact ih
    |false=>rw[List.filter_cons_of_neg (p:=fun p:(Nat×Nat×AO S)×bR=>f p.1.1) (by simp[hf])];simp only[pr,List.find?_cons,hb]at ih ⊢; exact ih
theorem nB{f:Nat->Bool}{z:ZL S}:∀{l:List Nat},(∀q∈l,f q=true)->eh (z.filter fun p=>f p.1.1) l=eh z l
 |[],_=>rfl
 |q::l,h=>by
  have ih:=nB (z:=z) fun q hq=>h q (au _ hq)
  simp only[eh,List.filterMap_cons,xK (h q aq)]at ih ⊢;rw[ih]
theorem me:∀{l:List Nat} {z:ZL S},l.Nodup->∃Y,List.Perm z (eh z l++Y)
 |[],z,_=>⟨z,List.Perm.refl _⟩
 |q::l,z,h=>by
  obtain⟨hq,hl⟩:=List.nodup_cons.1 h;have hf:∀r∈l,(!Nat.beq r q)=true:=fun r hr=>by
   rw[mT fun e=>hq (by rw[<- e];exact hr)];rfl
  obtain⟨Y,hY⟩:=me (z:=z.filter fun p=>!Nat.beq p.1.1 q) hl;rw[nB hf]at hY;have hz:List.Perm z (z.filter (fun p=>Nat.beq p.1.1 q)++z.filter fun p=>!Nat.beq p.1.1 q):=(List.filter_append_perm _ _).symm;simp only[eh,List.filterMap_cons]at hY ⊢
  cases hk:pr z q with
  |none=>exact⟨z.filter (fun p=>Nat.beq p.1.1 q)++Y,hz.trans ((aY _ hY).trans (by
   rw[<- az,<- az];exact List.Perm.append_right _ aK))⟩
  |some p=>
   obtain⟨h1,h2⟩:=gC hk
   have hm:p∈z.filter fun p=>Nat.beq p.1.1 q:=bu.2 ⟨h1,by rw[h2];exact Nat.beq_refl q⟩
   obtain⟨A,B,hAB⟩:=List.append_of_mem hm
   rw[hAB]at hz
   refine⟨A++B++Y,hz.trans (((List.perm_middle (l₁:=A) (l₂:=B) (a:=p)).append hY).trans ?_)⟩
   simp only[aV]
   refine List.Perm.cons p ?_
   rw[<- az,<- az]
   exact List.Perm.append_right _ aK
theorem tg{rm:List Nat}:∀{ob:List (Nat×Nat×AO S)},dH rm ob=ob.filter fun x=>!has x.1 rm
 |[]=>rfl
 |(q,x)::l=>by
  unfold dH;split
  . rename_i h;rw[List.filter_cons_of_neg (by simp[h])];exact tg
  . rename_i h;rw[List.filter_cons_of_pos (by simp[h]),tg]
theorem xY{ob:List (Nat×Nat×AO S)}{L:List bR}{rd rm:List Nat}(h:eW K g m ob L)(hn:(rd++rm).Nodup):∃Lr Lm Lz R Y,eW K g m (pick ob rd) Lr/\eW K g m (pick ob rm) Lm/\eW K g m (dH rm ob) Lz/\List.Perm L ((Lr++Lm)++R)/\List.Perm (Lr++R) (Lz++Y):=by
 obtain⟨z,rfl,rfl,hz⟩:=py h;obtain⟨n1,n2,n3⟩:=List.nodup_append.1 hn;have hp:List.Perm z (z.filter (fun p=>has p.1.1 rm)++z.filter fun p=>!has p.1.1 rm):=(List.filter_append_perm _ _).symm;obtain⟨Y1,hY1⟩:=me (z:=z.filter fun p=>has p.1.1 rm) n2;obtain⟨Y2,hY2⟩:=me (z:=z.filter fun p=>!has p.1.1 rm) n1;rw[nB (f:=fun q=>has q rm) fun q hq=>jM.2 hq]at hY1;rw[nB (f:=fun q=>!has q rm) fun q hq=>by
  cases hh:has q rm with
  |false=>rfl
  |true=>exact absurd rfl (n3 q hq q (jM.1 hh))]at hY2
 have mem:∀l,∀p∈eh z l,zR K g m p:=fun l p hp=>by
  obtain⟨q,_,hq⟩:=List.mem_filterMap.1 hp;exact hz p (gC hq).1
 refine⟨(eh z rd).map Prod.snd,(eh z rm).map Prod.snd,(z.filter fun p=>!has p.1.1 rm).map Prod.snd,(Y1++Y2).map Prod.snd,Y1.map Prod.snd,?_,?_,?_,?_,?_⟩
 . rw[<- mc];exact nF (mem rd)
 . rw[<- mc];exact nF (mem rm)
 . have:dH rm (z.map Prod.fst)=(z.filter fun p=>!has p.1.1 rm).map Prod.fst:=by
    rw[tg,List.filter_map];rfl
   rw[this];exact nF fun p hp=>hz p (bu.1 hp).1
 . rw[<- bB,<- bB];refine List.Perm.map _ (hp.trans ((hY1.append hY2).trans ?_));have e1:List.Perm (eh z rm++Y1++(eh z rd++Y2)) (eh z rm++eh z rd++(Y1++Y2)):=by
    rw[az,az];refine aY _ ?_;rw[<- az,<- az];exact List.Perm.append_right _ aK
   exact e1.trans (List.Perm.append_right _ aK)
 . rw[<- bB,<- bB];refine List.Perm.map _ ?_;refine List.Perm.trans ?_ (List.Perm.append_right Y1 hY2.symm);rw[az];exact aY _ aK
theorem qV:∀{ob ob':List (Nat×Nat×AO S)} {L L':List bR},eW K g m ob L->eW K g m ob' L'->eW K g m (ob++ob') (L++L')
 |[],ob',L,L',h,h'=>by simp only[eW]at h;subst h;exact h'
 |x::ob,ob',L,L',h,h'=>by
  obtain⟨e,L1,rfl,h1,h2,h3⟩:=h;exact⟨e,L1++L',rfl,h1,h2,qV h3 h'⟩
theorem Gd:∀{l:List (Nat×AO S)} {La:List bR} {v:Nat},B6 K g m l La->(∀i a e,l[i]?=some a->La[i]?=some e->g.oo (v+i)=some (a.2,e))->eW K g m (ve v l) La
 |[],La,v,h,_=>h
 |(q,a)::l,La,v,h,ho=>by
  obtain⟨e,L',rfl,h1,h2⟩:=h;exact⟨e,L',rfl,ho 0 (q,a) e rfl rfl,h1,Gd h2 fun i b f hb hf=>by
   have:=ho (i+1) b f (by simpa using hb) (by simpa using hf);rw[<- this];congr 1;omega⟩
theorem B7:∀{l:List (Nat×AO S)} {La:List bR},B6 K g m l La->La.length=l.length
 |[],La,h=>by simp only[B6]at h;subst h;rfl
 |_::l,La,h=>by
  obtain⟨e,L',rfl,h1,h2⟩:=h;simp[B7 h2]
section
variable {n:Nat}{ds:Cx}{B:List Nat}{m0:Mem}{rb:Nat->Option Gh}{σ:AS S}{a:Act}{L:List bR}
def GG.la(g:GG S)(g':GG S)(ct:Nat)(mv:Option Nat)(v:Value)(add:List (Nat×AO S))(La:List bR):GG S:=
 {bk:=g'.bk,vv:=fun i=>if i=ct/\mv=none then some v else g.vv i,
  oo:=fun i=>if ct+32<=i then(match add[i-(ct+32)]?,La[i-(ct+32)]? with|some a,some e=>some (a.2,e)|_,_=>g.oo i)else g.oo i}
theorem Um{L Lr Lm La Lz R Y X:List bR}{m m':Mem}(h:St B m0 m (L++X))(p1:List.Perm L ((Lr++Lm)++R))(p2:List.Perm (Lr++R) (Lz++Y))(hS:St (bK (Lr++Lm)) m m' (Lr++La)):St B m0 m' ((La++Lz)++X):=by
 have h0:St B m0 m ((Lr++Lm)++(R++X)):=h.perm ((List.Perm.append_right X p1).trans (by rw[az]));have h1:St B m0 m' ((Lr++La)++(R++X)):=St.frame h0 hS;have h2:List.Perm ((Lr++La)++(R++X)) (((La++Lz)++X)++Y):=by
  have e1:List.Perm ((Lr++La)++(R++X)) (La++((Lr++R)++X)):=by
   refine(List.Perm.append_right _ aK).trans ?_;rw[az,az]
  refine e1.trans ?_;refine(aY La (List.Perm.append_right X p2)).trans ?_;rw[az,az,az];exact aY _ (aY _ aK)
 exact(h1.perm h2).ox
theorem HM(hI:Inv K n ds B m0 rb σ g a m L){d:Option Tmp}{mv:Option Nat}{r:ia S}{v:Value}{w':World}{Lr Lm Lz R Y:List bR}(hd:∀t,d=some t->t<n)(uB:r.add.length<=31)
 (hz:eW K g m (dH r.rm σ.ob) Lz) (p1:List.Perm L ((Lr++Lm)++R)) (p2:List.Perm (Lr++R) (Lz++Y)) (hD:AA K g m σ.ct Lr Lm r v w') (hmv:∀bT,mv=some bT->g.vv bT=some v):
 ∃g' m' L',m'.w=w'/\GE g g'/\Le m m'/\Inv K n ds B m0 rb (σ.la d mv r) g' (a.put d v) m' L':=by
 obtain⟨m',g',La,rfl,hS,hge,hvv,hoo,hbk,hA,hv⟩:=hD
 have hle:=hS.le
 have hfr:=hI.fresh
 have hlA:=B7 hA
 have ge1:GE g' (g.la g' σ.ct mv v r.add La):=⟨fun _ _ h=>h,fun i x hx=>by
  rw[hvv]at hx;show(if _ then _ else _)=_;rw[if_neg fun⟨e,_⟩=>by subst e;rw[(hfr _ (Nat.le_refl _)).2.1]at hx;cases hx];exact hx,fun i x hx=>by
  rw[hoo]at hx;have:i<σ.ct:=Nat.lt_of_not_le fun h=>by rw[(hfr i h).2.2]at hx;cases hx
  show(if _ then _ else _)=_;rw[if_neg (by omega)];exact hx⟩
 have ge2:GE g (g.la g' σ.ct mv v r.add La):=hge.trans ge1
 refine⟨g.la g' σ.ct mv v r.add La,m',La++Lz,rfl,ge2,hle,?_⟩
 refine TF hI (ob':=ve (σ.ct+32) r.add++dH r.rm σ.ob) hd ge2 hle (qV (Gd (hA.mono ge1 (Le.refl _)) fun i x e hx he=>?_) (hz.mono ge2 hle)) ?_ (hv.mono ge1 (Le.refl _)) ?_ fun i hi=>⟨?_,?_,?_⟩
 . show(if _ then _ else _)=_
   rw[if_pos (by omega),show σ.ct+32+i-(σ.ct+32)=i by omega,hx,he]
 . exact Um hI.st p1 p2 hS
 . cases mv with
   |none=>show(if _ then _ else _)=_;rw[if_pos ⟨rfl,rfl⟩]
   |some bT=>exact ge2.vv _ _ (hmv bT rfl)
 . show g'.bk i=none
   refine bm fun hn=>?_
   have h1:=(hfr i (by omega)).1
   have:=hbk i (by rw[h1];exact hn)
   omega
 . show(if _ then _ else _)=_
   rw[if_neg (by omega)];exact(hfr i (by omega)).2.1
 . show(if _ then _ else _)=_
   rw[if_pos (by omega),List.getElem?_eq_none (by omega)]
   exact(hfr i (by omega)).2.2
theorem Xh(hI:Inv K n ds B m0 rb σ g a m L){d:Option Tmp}(hd:∀t,d=some t->t<n):
 ∃g',GE g g'/\Inv K n ds B m0 rb {σ.put d none (AV.gH S)with ct:=σ.ct+64} g' (a.put d undef) m L:=by
 have ge2:GE g {g with vv:=fun i=>if i=σ.ct then some undef else g.vv i}:=⟨fun _ _ h=>h,fun i x hx=>by
  show(if _ then _ else _)=_;rw[if_neg fun e=>by subst e;rw[(hI.fresh _ (by omega)).2.1]at hx;cases hx];exact hx,fun _ _ h=>h⟩
 have hob:(σ.put d none (AV.gH S)).ob=σ.ob:=by cases d<;>rfl
 refine⟨_,ge2,?_⟩
 have:=TF hI (ob':=σ.ob) (mv:=none) (v:=AV.gH S) (u:=undef) hd ge2 (Le.refl m) (hI.ob.mono ge2 (Le.refl m)) hI.st (by simp only[AV.gH,bP,db];exact⟨[],rfl,rfl⟩) (if_pos rfl) fun i hi=>⟨(hI.fresh i (by omega)).1,by show(if _ then _ else _)=_;rw[if_neg (by omega)];exact(hI.fresh i (by omega)).2.1,(hI.fresh i (by omega)).2.2⟩
 rw[<- hob]at this
 exact this
theorem bI.exact{o:Oper}{w:World}{b6:Value->World->Prop}{u:Value}(h:bI P o a w b6)(hr:(execOp a.eval o).run P w=.ok (.value u) w):b6 u w:=by
 unfold bI at h;rw[hr]at h;exact h
theorem S6{o:Oper}{bT:Nat}{w:World}(hI:Inv K n ds B m0 rb σ g a m L)(hm:mY σ o.op=some bT):∃u,(execOp a.eval o).run P w=.ok (.value u) w/\g.vv bT=some u:=by
 unfold mY at hm;split at hm
 . rename_i t ho;obtain⟨⟨vid',v⟩,hs,rfl⟩:=ab.1 hm;exact⟨a.eval (.tmp t),by simp[execOp,ho],(hI.slot hs).1⟩
 . rename_i t ho;obtain⟨⟨vid',v⟩,hs,rfl⟩:=ab.1 hm;exact⟨a.eval (.tmp t),by simp[execOp,ho],(hI.slot hs).1⟩
 . cases hm
theorem Xm(hI:Inv K n ds B m0 rb σ g a m L){o:Oper}{xs:List (AV S)}{r:ia S}(hd:∀t,o.dst=some t->t<n)(hx:oT K g m a o.op.operands.toList xs)(hn:gD (r.rd++r.rm)=true)(hO:sL P K o xs σ.ob σ.ct r):
 bI P o a m.w fun v w'=>∃g' m' L',m'.w=w'/\GE g g'/\Le m m'/\Inv K n ds B m0 rb (σ.la o.dst (mY σ o.op) r) g' (a.put o.dst v) m' L':=by
 obtain⟨Lr,Lm,Lz,R,Y,h1,h2,h3,p1,p2⟩:=xY hI.ob (iR hn)
 have hOw:Ow m (Lr++Lm):=(hI.st.ow.left.perm p1).left
 have key:=hO.did g a m Lr Lm (fun i hi _=>hI.fresh i hi) (K.Bm hI.rt.1 hI.st.le) hx h1 h2 hOw
 cases hm:mY σ o.op with
 |none=>exact key.mono fun v w' hD=>HM hI hd hO.uB h3 p1 p2 hD (fun _ h=>by cases h)
 |some bT=>
  obtain⟨u,hr,hu⟩:=S6 (P:=P) (w:=m.w) hI hm
  have hD:=E.bI.exact key hr
  unfold bI
  rw[hr]
  exact HM hI hd hO.uB h3 p1 p2 hD (fun _ h=>by cases h;exact hu)
def I9(n:Nat)(o:Oper):Bool:=match o.dst with|some d=>Nat.ble (d+1) n|none=>true
theorem xh{o:Oper}(h:I9 n o=true):∀t,o.dst=some t->t<n:=fun t ht=>by
 unfold I9 at h;rw[ht]at h;exact aj h
theorem WH{fa:FA S}(hΨ:∀c∈fa.nd,mS P K c){sq:Bool}{o:Oper}{xs:List (AV S)}{fx:FuncId×List (AV S)}{ob:List (Nat×Nat×AO S)}{ct:Nat}{γ:Type}{k:ia S->Option γ}{z:γ}(h:WG fa sq o xs=some fx)(hk:mb tb fx.1 fx.2 ob ct k fa.nd=some z):
 ∃rd rm:List Nat,(rd++rm).Nodup/\∀(g:GG S) (a:Act) (m:Mem) (Lr Lm:List bR),iE g ct->K.B m->oT K g m a o.op.operands.toList xs->eW K g m (pick ob rd) Lr->eW K g m (pick ob rm) Lm->Ow m (Lr++Lm)->
  bI P o a m.w fun v w'=>∃res,k res=some z/\res.rd=rd/\res.rm=rm/\res.add.length<=31/\AA K g m ct Lr Lm res v w':=by
 unfold WG at h
 split at h
 case h_2=>cases h
 case h_1=>
 unfold abk at h
 split at h
 case h_2=>cases h
 case h_1 c ho=>
 obtain⟨cal,ops,ts⟩:=c
 split at h
 case h_2=>cases h
 case h_1 y f first caps args hcal=>
 simp only at hcal
 subst hcal
 split at h
 case h_2=>cases h
 case h_1 hb=>
 cases h
 simp only[al]at hb
 have hf:=aj hb.2
 have hox:o.op.operands.toList=y::ops.toList:=by rw[ho];simp[Op.operands,Call.operands]
 obtain⟨rd,rm,hnd,h4⟩:=uM hΨ hk
 refine⟨rd,rm,hnd,fun g a m Lr Lm hF hB ha hR hM hO=>?_⟩
 rw[hox]at ha
 obtain⟨v,vs,e,a1,a2⟩:=ha
 cases e
 simp only[bP,bM]at a1
 obtain⟨v1,v2,e1,a3,a4⟩:=a1
 have key:=h4 g m _ Lr Lm hF hB (mz (mz (nG a3) (uq a2)) (nG a4)) hR hM hO
 unfold sy at key
 rw[if_pos hf]at key
 obtain⟨h3,key⟩:=key
 have hrun:(execOp a.eval o).run P m.w=.ok (.enter f (v1++ops.toList.map a.eval++v2).toArray) m.w:=by
  unfold execOp;have e2:a.eval y=.func (.func f) v1.toArray v2.toArray:=by simpa using e1
  simp only[ho,resolve,e2,Deferred.ofValue,Sem.run_bind,Sem.run_pure,Result.andThen_ok,invoke];rw[h3];congr 2;apply Array.ext';simp
 unfold bI
 rw[hrun]
 exact Calls.mono key fun e w' ⟨v,res,hv,hr⟩=>⟨v,hv,res,hr⟩
theorem xl(hT:dx P K tt){Φ:List (dS S)}(hΦ:∀c∈Φ,Sound P K c){fa:FA S}(hΨ:∀c∈fa.nd,mS P K c){sq:Bool}{ops:Array Oper}{γ:Type}{z:γ}{Q:Exit->Act->World->Prop}{rr:Option Nat}:∀{rest:List Oper} {i:Nat} {σ:AS S} {lg:Log} {k:AS S->Log->Option γ} {g:GG S} {a:Act} {m:Mem} {L:List bR},
 pf tb tt Φ fa sq ops rest i σ lg k=some z->rest.all (I9 n)=true->Inv K n ds B m0 rb σ g a m L->
 (∀σ' lg' g' a' m' L',k σ' lg'=some z->GE g g'->Le m m'->Inv K n ds B m0 rb σ' g' a' m' L'->Q .normal a' m'.w)->wpListIn (FW rr) 0 P ops Q rest a m.w
 |[],i,σ,lg,k,g,a,m,L,h,_,hI,hQ=>by
  simp only[pf]at h;exact hQ σ lg g a m L h (GE.refl g) (Le.refl m) hI
 |o::rest,i,σ,lg,k,g,a,m,L,h,hd,hI,hQ=>by
  simp only[List.all_cons,al]at hd;simp only[pf]at h;obtain⟨run,σ1,h1,hI1,hw⟩:=Qd hI h;unfold wpListIn
  cases run with
  |false=>
   simp only at h1
   rw[if_neg (by rw[hw];simp)]
   obtain⟨g',hge,hI2⟩:=Xh hI1 (xh hd.1)
   exact⟨fun _ _=>trivial,xl hT hΦ hΨ h1 hd.2 hI2 fun σ' lg' g2 a' m' L' hk h3 h4 h5=>hQ σ' lg' g2 a' m' L' hk (hge.trans h3) h4 h5⟩
  |true=>
   simp only at h1
   rw[if_pos hw]
   split at h1
   . rename_i xs hxs
     obtain⟨hx,hl⟩:=Hq hT hI1 hxs
     split at h1
     . rename_i hnd
       rw[xd]at h1
       obtain⟨r,hr,h2⟩:=aa.1 h1
       obtain⟨r',hr',hO⟩:=NA hT hΦ hl hr
       cases hr'
       split at h2
       . rename_i hn
         refine(Xm hI1 (xh hd.1) hx hn hO).wp fun v w' ⟨g',m',L',e,h3,h4,h5⟩=>?_
         subst e
         exact xl hT hΦ hΨ h2 hd.2 h5 fun σ' lg' g2 a' m2 L2 hk h6 h7 h8=>hQ σ' lg' g2 a' m2 L2 hk (h3.trans h6) (h4.trans h7) h8
       . cases h2
     . rename_i fx hnd
       obtain⟨rd,rm,hn,hstep⟩:=WH hΨ hnd h1
       obtain⟨Lr,Lm,Lz,R,Y,q1,q2,q3,p1,p2⟩:=xY hI1.ob hn
       have hOw:Ow m (Lr++Lm):=(hI1.st.ow.left.perm p1).left
       refine(hstep g a m Lr Lm (fun i hi _=>hI1.fresh i hi) (K.Bm hI1.rt.1 hI1.st.le) hx q1 q2 hOw).wp fun v w' ⟨res,hk2,e1,e2,hfew,hD⟩=>?_
       subst e1;subst e2
       obtain⟨g',m',L',e,h3,h4,h5⟩:=HM hI1 (mv:=none) (xh hd.1) hfew q3 p1 p2 hD (fun _ h=>by cases h)
       subst e
       exact xl hT hΦ hΨ hk2 hd.2 h5 fun σ' lg' g2 a' m2 L2 hk h6 h7 h8=>hQ σ' lg' g2 a' m2 L2 hk (h3.trans h6) (h4.trans h7) h8
   . cases h1
end
end E
end
section
open Go.RowKit G
namespace E
variable {S:Nat->Type}{tb:Tb S}{K:ep tb}{g:GG S}{m:Mem}
section
variable {n:Nat}{ds:Cx}{B:List Nat}{m0:Mem}{rb:Nat->Option Gh}{σ σ1:AS S}{a:Act}{L:List bR}
theorem nv{q:Nat}{ver:Nat}{ao:AO S}{X:List bR}(hob:eW K g m σ.ob L)(hl:look q σ.ob=some (ver,ao)):∃e L0 R,iY K g m q ao e/\List.Perm L (e::(L0++R))/\eW K g m (dH [q] σ.ob) L0:=by
 obtain⟨z,hz1,hz2,hz3⟩:=py hob;rw[<- hz1,nK]at hl;obtain⟨p,hp1,hp2⟩:=ab.1 hl;obtain⟨hp3,hp4⟩:=gC hp1;have hp5:=(hz3 p hp3).2;rw[hp2,hp4]at hp5;have hperm:List.Perm z (z.filter (fun p=>has p.1.1 [q])++z.filter fun p=>!has p.1.1 [q]):=(List.filter_append_perm _ _).symm;have hm:p∈z.filter fun p=>has p.1.1 [q]:=bu.2 ⟨hp3,by rw[hp4];exact jM.2 (by simp)⟩
 obtain⟨A,C,hAC⟩:=List.append_of_mem hm;rw[hAC]at hperm;refine⟨p.2,(z.filter fun p=>!has p.1.1 [q]).map Prod.snd,(A++C).map Prod.snd,hp5,?_,?_⟩
 . rw[<- hz2,<- bB,<- aF (f:=Prod.snd)];refine List.Perm.map _ (hperm.trans ?_);refine((List.perm_middle (l₁:=A) (l₂:=C) (a:=p)).append_right _).trans ?_;exact List.Perm.cons p aK
 . have:dH [q] (z.map Prod.fst)=(z.filter fun p=>!has p.1.1 [q]).map Prod.fst:=by
    rw[tg,List.filter_map];rfl
   rw[<- hz1,this];exact nF fun p hp=>hz3 p (bu.1 hp).1
theorem DU(hI:Inv K n ds B m0 rb σ g a m L)(x:Gh):∃g1,GE g g1/\g1.bk (σ.ct+1)=some x/\Inv K n ds B m0 rb {σ with ct:=σ.ct+64} g1 a m L:=by
 let g1:GG S:={bk:=fun i=>if i=σ.ct+1 then some x else g.bk i,vv:=g.vv,oo:=g.oo};have ge:GE g g1:=⟨fun i y hy=>by
  show(if i=σ.ct+1 then some x else g.bk i)=_;rw[if_neg fun e=>by rw[e,(hI.fresh _ (by omega)).1]at hy;cases hy];exact hy,fun _ _ h=>h,fun _ _ h=>h⟩
 refine⟨g1,ge,if_pos rfl,hI.size,hI.defers,hI.at_,fun s bT v h=>(let⟨u,k1,k2⟩:=hI.tm s bT v h;⟨u,k1,k2.mono ge (Le.refl m)⟩),hI.ob.mono ge (Le.refl m),hI.st,fun i hi=>⟨?_,(hI.fresh i (by simp only at hi;omega)).2.1,(hI.fresh i (by simp only at hi;omega)).2.2⟩,⟨hI.rt.1,fun j q hj=>?_⟩⟩
 . simp only at hi;show(if i=σ.ct+1 then some x else g.bk i)=_;rw[if_neg (by omega)];exact(hI.fresh i (by omega)).1
 . obtain⟨h,k1,k2⟩:=hI.rt.2 j q hj;exact⟨h,k1,ge.bk _ _ k2⟩
theorem sM(hI:Inv K n ds B m0 rb σ g a m L){q:Nat}{ao:AO S}{e:bR}(ho:iY K g m q ao e)(hst:St B m0 m ((e::L)++ds.X)):∃g1,GE g g1/\Inv K n ds B m0 rb (IJ σ q ao) g1 a m (e::L):=by
 let g1:GG S:={g with oo:=fun i=>if i=σ.ct+32 then some (ao,e)else g.oo i};have ge:GE g g1:=⟨fun _ _ h=>h,fun _ _ h=>h,fun i y hy=>by
  show(if i=σ.ct+32 then some (ao,e)else g.oo i)=_;rw[if_neg fun e'=>by rw[e',(hI.fresh _ (by omega)).2.2]at hy;cases hy];exact hy⟩
 refine⟨g1,ge,hI.size,hI.defers,hI.at_,fun s bT v h=>(let⟨u,k1,k2⟩:=hI.tm s bT v h;⟨u,k1,k2.mono ge (Le.refl m)⟩),⟨e,L,rfl,if_pos rfl,ho.mono ge (Le.refl m),hI.ob.mono ge (Le.refl m)⟩,hst,fun i hi=>⟨?_,?_,?_⟩,hI.rt⟩
 . have hi:σ.ct+64<=i:=hi;exact(hI.fresh i (by omega)).1
 . have hi:σ.ct+64<=i:=hi;exact(hI.fresh i (by omega)).2.1
 . have hi:σ.ct+64<=i:=hi;show(if i=σ.ct+32 then some (ao,e)else g.oo i)=_;rw[if_neg (by omega)];exact(hI.fresh i (by omega)).2.2
theorem Kl(hI:Inv K n ds B m0 rb σ g a m L){t bT:Nat}{v0 v:AV S}(hs:look t σ.tm=some (bT,v0))(hv:∀u,bP K g m v0 u->bP K g m v u):Inv K n ds B m0 rb {σ with tm:=(t,bT,v)::qz t σ.tm,ct:=σ.ct+64} g a m L:=by
 refine⟨hI.size,hI.defers,fun t' vid' v' hl=>?_,fun s vid' v' hl=>?_,hI.ob,hI.st,fun i hi=>hI.fresh i (by simp only at hi;omega),hI.rt⟩
 . simp only[bN]at hl;by_cases e':t=σ.fb+t'
   . rw[if_pos e']at hl;cases hl;exact hI.at_ t' bT v0 (by rw[<- e'];exact hs)
   . rw[if_neg e',iz (Ne.symm e')]at hl;exact hI.at_ _ _ _ hl
 . simp only[bN]at hl;by_cases e':t=s
   . rw[if_pos e']at hl;cases hl;obtain⟨u,k1,k2⟩:=hI.tm _ _ _ hs;exact⟨u,k1,hv u k2⟩
   . rw[if_neg e',iz (Ne.symm e')]at hl;exact hI.tm _ _ _ hl
theorem GC{w w':CV S}(hv:∀cs,bM K g m w cs->bM K g m w' cs):∀{vs:List (CV S)} {i:Nat} {us:List Value},vs[i]?=some w->cJ K g m vs us->cJ K g m (vs.set i w') us
 |[],i,us,h,_=>by simp at h
 |v::vs,0,us,h,⟨c1,c2,e,h1,h2⟩=>by
  simp at h;subst h;exact⟨c1,c2,e,hv _ h1,h2⟩
 |v::vs,i+1,us,h,⟨c1,c2,e,h1,h2⟩=>⟨c1,c2,e,h1,GC hv (by simpa using h) h2⟩
theorem tW{t i:Nat}{w w':CV S}(hI:Inv K n ds B m0 rb σ g a m L)(hp:place σ t i=some w)(hv:∀cs,bM K g m w cs->bM K g m w' cs):∃g1 L1,GE g g1/\Inv K n ds B m0 rb (tV σ t i w') g1 a m L1:=by
 unfold place at hp;unfold tV;split at hp
 . rename_i bT v hs
   cases i with
   |zero=>
    simp only[af]at hp
    subst hp
    exact⟨g,L,GE.refl g,Kl hI hs fun u h=>by simp only[bP]at h ⊢; exact hv _ h⟩
   |succ i=>
    simp only at hp ⊢
    split at hp
    case h_2=>cases hp
    case h_1 o off=>
    split at hp
    case h_2=>cases hp
    case h_1 ver T cs hlk=>
    obtain⟨e,L0,Rst,ho,hperm,hob⟩:=nv (X:=[]) hI.ob hlk
    obtain⟨gh,b,us,h1,h2,rfl,h4⟩:=ho
    have hI2:Inv K n ds B m0 rb {σ with ob:=dH [o] σ.ob} g a m L0:=⟨hI.size,hI.defers,hI.at_,hI.tm,hob,by
     have:=hI.st.perm (hperm.append_right _);have h5:List.Perm ((.box b us.toArray T::(L0++Rst))++ds.X) ((L0++ds.X)++(.box b us.toArray T::Rst)):=by
      show List.Perm (.box b us.toArray T::((L0++Rst)++ds.X)) _;refine(List.Perm.cons _ ?_).trans (List.perm_middle (l₁:=L0++ds.X) (l₂:=Rst) (a:=bR.box b us.toArray T)).symm;rw[az,az];exact aY L0 aK
     exact(this.perm h5).ox,hI.fresh,hI.rt⟩
    obtain⟨g1,k1,k2⟩:=sM hI2 (q:=o) (ao:=.box T (cs.set i w')) (e:=.box b us.toArray T) ⟨gh,b,us,h1,h2,rfl,GC hv hp h4⟩ (by
     have:=hI.st.perm (hperm.append_right _);have h5:List.Perm ((.box b us.toArray T::(L0++Rst))++ds.X) (((.box b us.toArray T::L0)++ds.X)++Rst):=by
      simp only[aV,az];exact List.Perm.cons _ (aY L0 aK)
     exact(this.perm h5).ox)
    exact⟨g1,_,k1,k2⟩
 . rename_i bT vs hs
   cases i with
   |zero=>cases hp
   |succ i=>
    simp only at hp ⊢
    exact⟨g,L,GE.refl g,Kl hI hs fun u h=>by
     simp only[bP]at h ⊢;obtain⟨cs,e,h1⟩:=h;exact⟨cs,e,GC hv hp h1⟩⟩
 . cases hp
theorem Tz{t i:Nat}{k:Ye}(hI:Inv K n ds B m0 rb σ g a m L)(h:Ty σ t i k=some σ1):∃g1 m1 L1,m1.w=m.w/\Le m m1/\GE g g1/\Inv K n ds B m0 rb σ1 g1 a m1 L1:=by
 unfold Ty at h;split at h
 . rename_i e c hp;cases h;obtain⟨g1,k1,k2,k3⟩:=DU hI ⟨none,none,0,0,default⟩;obtain⟨g2,L2,k4,k5⟩:=tW (w':= .rw (σ.ct+1) c []) k3 hp fun cs hc=>by
    simp only[bM]at hc ⊢;exact⟨_,[],none,k2,by rw[hc];rfl,dM.nil _ _,dM.nil _ _,rfl,fun h=>absurd h (by simp)⟩
   obtain⟨g3,k6,k7⟩:=sM k5 (q:=σ.ct+1) (ao:=.row e c) (e:=.row none e (0*zK K c) (0*zK K c)) ⟨_,k4.bk _ _ k2,rfl⟩ (k5.st.KR (α:=Unit) e (zK K c));exact⟨g3,m,_,rfl,Le.refl m,(k1.trans k4).trans k6,k7⟩
 . rename_i e c hp;cases h;obtain⟨g1,k1,k2,k3⟩:=DU hI ⟨none,none,0,0,default⟩;obtain⟨g2,L2,k4,k5⟩:=tW (w':= .aw (σ.ct+1)) k3 hp fun cs hc=>by
    simp only[bM]at hc ⊢;exact⟨_,k2,by rw[hc]⟩
   obtain⟨g3,k6,k7⟩:=sM k5 (q:=σ.ct+1) (ao:=.arr e c true []) (e:=.arr none #[] e) ⟨_,#[],k4.bk _ _ k2,rfl,rfl,fZ.nil _ _ _,fun _=>⟨rfl,vH.nil _ _ _⟩⟩ (k5.st.Rv _ _);exact⟨g3,m,_,rfl,Le.refl m,(k1.trans k4).trans k6,k7⟩
 . rename_i o hp;obtain⟨⟨ver,ao⟩,hlk,h1⟩:=aa.1 h;clear h;simp only at h1;split at h1
   case h_2=>cases h1
   case h_1 e c f l=>
   split at h1
   case h_2=>cases h1
   case h_1 o' hp2=>
   split at h1
   case h_2=>cases h1
   case h_1 he=>
   obtain rfl:=ah he;have h3:=ax h1;subst h3;obtain⟨en,L0,Rst,ho,hperm,hob⟩:=nv (X:=[]) hI.ob hlk;obtain⟨gh,cs,h1,h2,rfl,h4,_⟩:=ho;have hs:St B m0 m (.arr gh.g cs e::((L0++ds.X)++Rst)):=(hI.st.perm (hperm.append_right _)).perm (by
    simp only[aV,az];exact List.Perm.cons _ (aY L0 aK))
   obtain⟨m1,hw,hle,hS,hE⟩:=St.Fp (cF K c) hs h4;have hI2:Inv K n ds B m0 rb {σ with ob:=dH [o'] σ.ob} g a m1 L0:=⟨hI.size,hI.defers,hI.at_,fun s bT v h=>(let⟨u,k1,k2⟩:=hI.tm s bT v h;⟨u,k1,k2.mono (GE.refl _) hle⟩),hob.mono (GE.refl _) hle,hS.ox,hI.fresh,hI.rt⟩;obtain⟨g2,L2,k4,k5⟩:=tW (w':= .sl c l) hI2 hp2 fun cs hc=>by
    simp only[bM]at hc ⊢;obtain⟨gh2,j1,j2⟩:=hc;rw[h1]at j1;cases j1;exact⟨gh.ad,gh.cap,by rw[j2,h2],hE⟩
   exact⟨g2,m1,_,hw,hle,k4,k5⟩
 . cases h;exact⟨g,m,L,rfl,Le.refl m,GE.refl g,hI⟩
 . cases h
theorem yd:∀{l:List (Nat×Nat×Ye)} {σ σ1:AS S} {g:GG S} {m:Mem} {L:List bR},Inv K n ds B m0 rb σ g a m L->EW l σ=some σ1->∃g1 m1 L1,m1.w=m.w/\Le m m1/\GE g g1/\Inv K n ds B m0 rb σ1 g1 a m1 L1
 |[],σ,σ1,g,m,L,hI,h=>by simp only[EW,af]at h;subst h;exact⟨g,m,L,rfl,Le.refl m,GE.refl g,hI⟩
 |(t,i,k)::l,σ,σ1,g,m,L,hI,h=>by
  simp only[EW]at h;obtain⟨σ2,h1,h2⟩:=aa.1 h;obtain⟨g1,m1,L1,hw,hl,k1,k2⟩:=Tz hI h1;obtain⟨g2,m2,L2,hw2,hl2,j1,j2⟩:=yd k2 h2;exact⟨g2,m2,L2,hw2.trans hw,hl.trans hl2,k1.trans j1,j2⟩
end
end E
end
section
open Go.RowKit G
namespace E
variable {S:Nat->Type}{tb:Tb S}{K:ep tb}{P:Program}{tt:TypeId->Option (TI S)}{g:GG S}{m:Mem}
theorem kU{α:Type}{t:Nat}:∀{l l':List (Nat×α)},look t (l++l')=match look t l with|some x=>some x|none=>look t l'
 |[],l'=>rfl
 |(u,x)::l,l'=>by
  rw[aV,bN,bN];by_cases h:u=t
  . rw[if_pos h,if_pos h]
  . rw[if_neg h,if_neg h];exact kU
theorem pq{J:JA}:∀{l:List (Nat×Nat×AV S)} {s:Nat} {x:Nat×AV S},look s (rK J l)=some x->look s l=some x
 |[],s,x,h=>h
 |(t,y)::l,s,x,h=>by
  unfold rK at h;rw[bN];split at h
  . rename_i hk;by_cases e:t=s
    . subst e;exfalso;have key:∀l:List (Nat×Nat×AV S),look t (rK J l)=none:=fun l=>by
       induction l with
       |nil=>rfl
       |cons z l ih=>
        obtain⟨u,z⟩:=z
        unfold rK
        split
        . exact ih
        . rename_i hk'
          rw[bN]
          by_cases e:u=t
          . subst e;rw[hk]at hk';cases hk'
          . rw[if_neg e];exact ih
      rw[key]at h;cases h
    . rw[if_neg e];exact pq h
  . rw[bN]at h;by_cases e:t=s
    . rw[if_pos e]at h ⊢; exact h
    . rw[if_neg e]at h ⊢; exact pq h
theorem A7{tm:List (Nat×Nat×AV S)}:∀{l:List (Nat×Nat×AV S)} {s:Nat} {x:Nat×AV S},HD tm l=true->look s l=some x->∃v,look s tm=some (x.1,v)
 |[],s,x,_,h=>by cases h
 |(t,y)::l,s,x,hs,h=>by
  simp only[HD,al]at hs;rw[bN]at h;by_cases e:t=s
  . subst e;rw[if_pos rfl]at h;cases h;have h1:=hs.1;split at h1
    . rename_i z hz;obtain⟨z1,z2⟩:=z;have:=ah h1;simp only at this;exact⟨z2,by rw[hz,this]⟩
    . cases h1
  . rw[if_neg e]at h;exact A7 hs.2 h
theorem D2{ob:List (Nat×Nat×AO S)}:∀{l:List (Nat×Nat×AO S)} {x:Nat×Nat×AO S},HB ob l=true->x∈l->∃a,look x.1 ob=some (x.2.1,a)
 |[],x,_,h=>by cases h
 |(t,y)::l,x,hs,h=>by
  simp only[HB,al]at hs;rcases aB.1 h with rfl|h
  . have h1:=hs.1;split at h1
    . rename_i z hz;obtain⟨z1,z2⟩:=z;have:=ah h1;simp only at this;exact⟨z2,by rw[hz,this]⟩
    . cases h1
  . exact D2 hs.2 h
theorem zx{r:List Nat}:∀{ob:List (Nat×Nat×AO S)},De r ob=ob.filter fun x=>has x.1 r
 |[]=>rfl
 |(q,x)::l=>by
  unfold De;split
  . rename_i h;rw[List.filter_cons_of_pos (by simp[h]),zx]
  . rename_i h;rw[List.filter_cons_of_neg (by simp[h])];exact zx
theorem FK{ids:Nat->Nat}:∀{l:List (AO S)} {L:List bR} {o v:Nat},KN K g m ids o l L->(∀i a e,l[i]?=some a->L[i]?=some e->g.oo (v+i)=some (a,e))->eW K g m (L8 ids o v l) L
 |[],L,o,v,h,_=>h
 |a::l,L,o,v,h,ho=>by
  obtain⟨e,L',rfl,h1,h2⟩:=h;exact⟨e,L',rfl,ho 0 a e rfl rfl,h1,FK h2 fun i b f hb hf=>by
   have:=ho (i+1) b f (by simpa using hb) (by simpa using hf);rw[<- this];congr 1;omega⟩
theorem uJ{t x:Nat}:∀{l:List (Nat×Nat)},look t l=some x->(t,x)∈l
 |[],h=>by cases h
 |(u,y)::l,h=>by
  rw[bN]at h;by_cases e:u=t
  . rw[if_pos e]at h;cases h;rw[e];exact aq
  . rw[if_neg e]at h;exact au _ (uJ h)
theorem Qq{l:List (Nat×Nat)}{x:Nat}:∀{a b:Nat},(l.map (·.2)).Nodup->(a,x)∈l->(b,x)∈l->a=b:=by
 induction l with
 |nil=>intro a b _ h;cases h
 |cons p l ih=>
  intro a b hn ha hb
  obtain⟨h1,h2⟩:=List.nodup_cons.1 hn
  rcases aB.1 ha with e|ha'
  . rcases aB.1 hb with e2|hb'
    . rw[<- e]at e2;exact(Prod.mk.inj e2).1.symm
    . exact absurd (List.mem_map.2 ⟨_,hb',by rw[<- e]⟩) h1
  . rcases aB.1 hb with e2|hb'
    . exact absurd (List.mem_map.2 ⟨_,ha',by rw[<- e2]⟩) h1
    . exact ih h2 ha' hb'
theorem JQ{ids:Nat->Nat}:∀{l:List (AO S)} {L:List bR} {o v:Nat},KN K g m ids o l L->(∀i,ids (o+i)=v+i)->(∀i a e,l[i]?=some a->L[i]?=some e->g.oo (v+i)=some (a,e))->eW K g m (JP v l) L
 |[],L,o,v,h,_,_=>h
 |a::l,L,o,v,h,hi,ho=>by
  obtain⟨e,L',rfl,h1,h2⟩:=h;refine⟨e,L',rfl,ho 0 a e rfl rfl,?_,JQ h2 (fun i=>?_) fun i b f hb hf=>?_⟩
  . have:=hi 0;simp only[Nat.add_zero]at this;rw[this]at h1;exact h1
  . have:=hi (i+1);rw[show o+1+i=o+(i+1)by omega,this];omega
  . have:=ho (i+1) b f (by simpa using hb) (by simpa using hf);rw[<- this];congr 1;omega
theorem Gb{ids:Nat->Nat}:∀{l:List (AO S)} {L:List bR} {o:Nat},KN K g m ids o l L->L.length=l.length
 |[],L,o,h=>by simp only[KN]at h;subst h;rfl
 |a::l,L,o,h=>by obtain⟨e,L',rfl,h1,h2⟩:=h;simp[Gb h2]
theorem DL{z:ZL S}{f:((Nat×Nat×AO S)×bR)->Nat}:∀{z0:ZL S},(∀p0∈z0,∃p,pr z (f p0)=some p/\p.2=p0.2)->(eh z (z0.map f)).map Prod.snd=z0.map Prod.snd
 |[],_=>rfl
 |p0::z0,h=>by
  obtain⟨p,h1,h2⟩:=h p0 aq;have ih:=DL (z0:=z0) fun q hq=>h q (au _ hq)
  simp only[eh]at ih;simp only[eh,aF,List.filterMap_cons,h1,h2,ih]
section
variable {n:Nat}{ds ds0:Cx}{B:List Nat}{m0 ms:Mem}{rb:Nat->Option Gh}{σ0 σ σ1:AS S}{a a0:Act}{L L0:List bR}{g0:GG S}
theorem Ko{L L' Y X:List bR}{m:Mem}(h:St B m0 m (L++X))(p:List.Perm L (L'++Y)):St B m0 m (L'++X):=by
 have h1:List.Perm (L++X) ((L'++X)++Y):=(List.Perm.append_right X p).trans (by rw[az,az];exact aY _ aK);exact(h.perm h1).ox
theorem uH{J:JA}{z:HT S J.ls}(h0:Inv K n ds0 B m0 rb σ0 g0 a0 ms L0)(hI:Inv K n ds B m0 rb σ g a m L)(hge:GE g0 g)(hle:Le ms m)(hp:pack tb J σ0 σ=some z)(hu:unpack tb J σ0 z=some σ1):
 ∃g1 m1 L1,m1.w=m.w/\Le ms m1/\GE g0 g1/\Inv K n ds B m0 rb σ1 g1 a m1 L1:=by
 unfold pack at hp
 obtain⟨σp,hpre,hp⟩:=aa.1 hp
 obtain⟨gp,mp_,Lp,hw,hle1,hge1,hI⟩:=yd hI hpre
 replace hge:=hge.trans hge1
 replace hle:=hle.trans hle1
 clear hpre hle1 hge1
 suffices ∃g1 L1,GE g0 g1/\Inv K n ds B m0 rb σ1 g1 a mp_ L1 by
  obtain⟨g1,L1,k1,k2⟩:=this;exact⟨g1,mp_,L1,hw,hle,k1,k2⟩
 clear hw
 revert hp hI hge hle
 generalize σp=σ,gp=g,mp_=m,Lp=L
 intro hp hI hge hle
 split at hp
 case h_2=>cases hp
 case h_1 hc=>
 simp only[al]at hc
 obtain⟨⟨⟨⟨c1,c2⟩,c3⟩,c4⟩,c5⟩:=hc
 have hfx:∀o q,look o J.fx=some q->(∃x,look q σ0.ob=some x)/\o<=200:=fun o q h=>by
  have:=aE.1 c4 _ (uJ h);simp only[al,Option.isSome_iff_exists]at this;exact⟨this.1,aj this.2⟩
 have hMf:jr J.fx:=⟨fun o o' q h h'=>Qq (iR c5) (uJ h) (uJ h'),fun o q h=>(hfx o q h).2⟩
 obtain⟨⟨pd,mp0⟩,hp1,hp⟩:=aa.1 hp
 obtain⟨⟨qd,mp⟩,hq1,hp⟩:=aa.1 hp
 simp only at hq1 hp
 split at hp
 case h_2=>cases hp
 case h_1 hd=>
 have d2:=hd
 obtain⟨dd,hdd,hof⟩:=aa.1 hp
 unfold unpack at hu
 obtain⟨de,hde,hu1⟩:=aa.1 hu
 obtain⟨⟨tl,r1⟩,hf1,hu2⟩:=aa.1 hu1
 obtain⟨⟨ol,r2⟩,hf2,hu3⟩:=aa.1 hu2
 clear hu hu1 hu2
 simp only[af]at hu3
 simp only at hf2
 rw[CL hof]at hde
 have:=uS J.X1 hdd hde
 subst this
 have c3:=ah c3
 have hJ:=J.uB
 simp only[al]at hJ
 have hJ1:=aj hJ.1
 have hJ2:=aj hJ.2
 let val:Nat->Value:=fun s=>((look s σ.tm).bind fun x=>g.vv x.1).getD undef
 have hval:∀t bT v,look t σ.tm=some (bT,v)->g.vv bT=some (val t):=fun t bT v ht=>by
  obtain⟨u,h1,_⟩:=hI.tm t bT v ht;show _=some (((look t σ.tm).bind fun x=>g.vv x.1).getD undef);rw[ht];simp[h1]
 obtain⟨s1,s2,s3⟩:=wE (val:=val) (fun t bT v ht=>by
  obtain⟨u,h1,h2⟩:=hI.tm t bT v ht;rw[hval t bT v ht]at h1;cases h1;exact h2) hp1
 obtain⟨t1,t2,t3⟩:=OS.oM hq1
 have hM:=t2 (s2 hMf)
 obtain⟨z,hz1,hz2,hz3⟩:=py hI.ob
 obtain⟨z0,hy1,hy2,hy3⟩:=py h0.ob
 have hnd:=iR d2
 obtain⟨Y,hY⟩:=me (z:=z) hnd
 have hkept:∃r:Nat->Bool,xF J σ0=σ0.ob.filter fun x=>r x.1:=by
  unfold xF;rw[tg,zx,List.filter_filter];exact⟨fun q=>!has q _&&has q _,rfl⟩
 obtain⟨r,hr⟩:=hkept
 have hk2:xF J σ0=(z0.filter fun p=>r p.1.1).map Prod.fst:=by rw[hr,<- hy1,List.filter_map];rfl
 have hk3:(xF J σ0).map (·.1)=(z0.filter fun p=>r p.1.1).map fun p=>p.1.1:=by rw[hk2,List.map_map];rfl
 have hsame:∀p0∈z0.filter (fun p=>r p.1.1),∃p,pr z p0.1.1=some p/\p.2=p0.2:=fun p0 hp0=>by
  have hm:=(bu.1 hp0).1;obtain⟨x,hx⟩:=D2 c2 (x:=p0.1) (by rw[hk2];exact List.mem_map_of_mem hp0);rw[<- hz1,nK]at hx;obtain⟨p,hp1,hp2⟩:=ab.1 hx;refine⟨p,hp1,?_⟩;have e1:=(hz3 p (gC hp1).1).1;have e2:=hge.oo _ _ (hy3 p0 hm).1;rw[hp2]at e1;simp only at e1;rw[e1]at e2;have:=ax e2;exact(Prod.mk.inj this).2
 have hLK:=DL (z:=z) hsame
 have hJL:eW K g m (pick σ.ob (zQ mp 0 J.fm.length)) ((eh z (zQ mp 0 J.fm.length)).map Prod.snd):=by
  rw[<- hz1,<- mc];exact nF fun p hp=>by
   obtain⟨q,_,hq⟩:=List.mem_filterMap.1 hp;exact hz3 p (gC hq).1
 generalize hLJ:(eh z (zQ mp 0 J.fm.length)).map Prod.snd=LJ at hJL
 let g1:GG S:=
  {bk:=fun i=>if σ0.ct<=i then(look (i-σ0.ct) mp).bind g.bk else g0.bk i
   vv:=fun i=>if σ0.ct<=i then(if σ0.ct+64<=i then(tl[i-(σ0.ct+64)]?).map fun x=>val x.1 else none)else g0.vv i
   oo:=fun i=>if σ0.ct<=i then(match ol[i-σ0.ct]?,LJ[i-σ0.ct]? with|some a,some e=>some (a,e)|_,_=>none)else g0.oo i}
 have ge1:GE g0 g1:=⟨fun i x hx=>by
  show(if _ then _ else _)=_;rw[if_neg fun h=>by rw[(h0.fresh i h).1]at hx;cases hx];exact hx,fun i x hx=>by
  show(if _ then _ else _)=_;rw[if_neg fun h=>by rw[(h0.fresh i h).2.1]at hx;cases hx];exact hx,fun i x hx=>by
  show(if _ then _ else _)=_;rw[if_neg fun h=>by rw[(h0.fresh i h).2.2]at hx;cases hx];exact hx⟩
 have hRen:Ren mp g g1 (J.ids σ0.ct):=fun o q h ho hb=>by
  unfold JA.ids;split
  . rename_i q' hq';have:=t1 _ _ (s1 _ _ hq');rw[ho]at this;cases this;obtain⟨⟨ver,ao⟩,hx⟩:=(hfx o q hq').1;obtain⟨e,_,_,ho2,_,_⟩:=nv (X:=[]) h0.ob hx;have hb0:∃gh,g0.bk q=some gh:=by
     cases ao with
     |box T cs=>obtain⟨gh,b,vs,h1,_⟩:=ho2;exact⟨gh,h1⟩
     |row T c=>obtain⟨gh,h1,_⟩:=ho2;exact⟨gh,h1⟩
     |arr T c f l=>obtain⟨gh,cs,h1,_⟩:=ho2;exact⟨gh,h1⟩
     |loop r st tm=>obtain⟨gh,_,_,_,_,h1,_⟩:=ho2;exact⟨gh,h1⟩
     |map t kc vc l hole=>obtain⟨gh,_,_,_,h1,_⟩:=ho2;exact⟨gh,h1⟩
     |qE t et kc c l hole=>obtain⟨gh,_,_,_,_,h1,_⟩:=ho2;exact⟨gh,h1⟩
     |lD t kc vc l hole q=>obtain⟨gh,_,_,_,h1,_⟩:=ho2;exact⟨gh,h1⟩
     |sD kc o st=>obtain⟨gh,_,_,_,h1,_⟩:=ho2;exact⟨gh,h1⟩
     |EP t kc l=>obtain⟨gh,_,_,_,h1,_⟩:=ho2;exact⟨gh,h1⟩
    obtain⟨gh,hb0⟩:=hb0;have:=hge.bk _ _ hb0;rw[hb]at this;cases this;show(if σ0.ct<=q then _ else g0.bk q)=_;rw[if_neg fun hle=>by rw[(h0.fresh q hle).1]at hb0;cases hb0];exact hb0
  . show(if σ0.ct<=σ0.ct+o then(look (σ0.ct+o-σ0.ct) mp).bind g.bk else _)=_;rw[if_pos (by omega),show σ0.ct+o-σ0.ct=o by omega,ho];exact hb
 obtain⟨e1,e2,e3⟩:=s3 g1 _ _ _ _ _ (hRen.sub t1) hf1
 rw[e1]at hf2
 obtain⟨_,f2,f3⟩:=OS.uZ hq1 (Sub.refl _) hJL g1 _ [] _ _ hRen (by rw[aW];exact hf2)
 have f4:=Gb f2
 refine⟨g1,LJ++(z0.filter fun p=>r p.1.1).map Prod.snd,ge1,?_⟩
 subst hu3
 refine⟨hI.size,hI.defers,fun t bT v hs=>?_,fun s bT v hs=>?_,qV (FK f2 fun i x e hx he=>?_) ?_,?_,fun i hi=>⟨?_,?_,?_⟩,⟨h0.rt.1,fun j q hj=>?_⟩⟩
 ·
  simp only at hs
  rw[kU]at hs
  split at hs
  . rename_i x hx
    cases hs
    obtain⟨i,hi⟩:=List.getElem?_of_mem (gl hx)
    obtain⟨e4,e5,y,e6⟩:=e3 i _ hi
    simp only at e4 e6
    show(if _ then _ else _)=_
    rw[if_pos (by omega),if_pos (by omega),e4,show σ0.ct+64+i-(σ0.ct+64)=i by omega,hi]
    obtain⟨y1,y2⟩:=y
    have e7:=hval _ _ _ e6
    rw[<- c3]at e6
    rw[hI.at_ _ _ _ e6]at e7
    exact e7.symm
  . obtain⟨v',hv'⟩:=A7 c1 hs
    have h1:=pq hs
    obtain⟨u,hu1,_⟩:=h0.tm _ _ _ h1
    rw[<- c3]at hv'
    have h2:=hI.at_ _ _ _ hv'
    simp only at h2
    rw[hge.vv _ _ hu1]at h2
    rw[ge1.vv _ _ hu1];exact h2
 . simp only at hs
   rw[kU]at hs
   split at hs
   . rename_i x hx
     cases hs
     obtain⟨i,hi⟩:=List.getElem?_of_mem (gl hx)
     obtain⟨e4,e5,y,e6⟩:=e3 i _ hi
     simp only at e4 e5
     refine⟨val s,?_,e5⟩
     show(if _ then _ else _)=_
     rw[if_pos (by omega),if_pos (by omega),e4,show σ0.ct+64+i-(σ0.ct+64)=i by omega,hi]
     rfl
   . obtain⟨u,hu1,hu2⟩:=h0.tm _ _ _ (pq hs)
     exact⟨u,ge1.vv _ _ hu1,hu2.mono ge1 hle⟩
 . show(if _ then _ else _)=_
   rw[if_pos (by omega),show σ0.ct+i-σ0.ct=i by omega,hx,he]
 . rw[hk2]
   exact nF fun p hp=>by
    obtain⟨k1,k2⟩:=hy3 p (bu.1 hp).1;exact⟨ge1.oo _ _ k1,k2.mono ge1 hle⟩
 . refine Ko hI.st (Y:=Y.map Prod.snd) ?_
   show List.Perm L ((LJ++(z0.filter fun p=>r p.1.1).map Prod.snd)++Y.map Prod.snd)
   ·
    rw[<- hz2,<- hLJ,<- hLK,<- hk3,<- bB,<- bB]
    refine List.Perm.map _ ?_
    have:eh z (zQ mp 0 J.fm.length)++eh z ((xF J σ0).map (·.1))=eh z (zQ mp 0 J.fm.length++(xF J σ0).map (·.1)):=by
     simp only[eh,List.filterMap_append]
    rw[this];exact hY
 . simp only at hi
   show(if _ then _ else _)=_
   rw[if_pos (by omega)]
   cases hl:look (i-σ0.ct) mp with
   |none=>rfl
   |some q=>have:=hM.small _ _ hl;omega
 . simp only at hi
   show(if _ then _ else _)=_
   rw[if_pos (by omega),if_pos (by omega),List.getElem?_eq_none (by omega)];rfl
 . simp only at hi
   show(if _ then _ else _)=_
   rw[if_pos (by omega),List.getElem?_eq_none (l:=ol) (by omega)]
 . obtain⟨h,k1,k2⟩:=h0.rt.2 j _ hj
   exact⟨h,k1,ge1.bk _ _ k2⟩
end
end E
end
section
open Go.RowKit G
open Go.ChangeMaps (setBlock)
namespace E
variable {S:Nat->Type}{tb:Tb S}{K:ep tb}{P:Program}{tt:TypeId->Option (TI S)}{g:GG S}{m m0:Mem}{n:Nat}{ds:Cx}{B:List Nat}{rb:Nat->Option Gh}{σ σ2:AS S}{a:Act}{L:List bR}
theorem rL{t s:Nat}:∀{l:List (Nat×Nat×AV S)},look s (NL t l)=if s=t then none else look s l
 |[]=>by unfold NL;simp[look]
 |(u,x)::l=>by
  have ih:=rL (t:=t) (s:=s) (l:=l);unfold NL at ih ⊢;rw[List.filter_cons];by_cases h:u=t
  . subst h;rw[if_neg (by simp),ih];by_cases h2:s=u
    . rw[if_pos h2,if_pos h2]
    . rw[if_neg h2,if_neg h2,bN,if_neg (Ne.symm h2)]
  . rw[if_pos (by rw[mT h];rfl),bN,bN,ih];by_cases h2:s=t
    . rw[if_pos h2,if_pos h2,if_neg (by rw[h2];exact h)]
    . rw[if_neg h2,if_neg h2]
theorem th(hI:Inv K n ds B m0 rb σ g a m L)(t:Nat):Inv K n ds B m0 rb (σ.df t) g a m L:=by
 have key:∀s bT v,look s (σ.df t).tm=some (bT,v)->look s σ.tm=some (bT,v):=fun s bT v h=>by
  unfold AS.df at h;simp only at h;rw[rL]at h;split at h
  . cases h
  . exact h
 exact⟨hI.size,hI.defers,fun t' bT v h=>hI.at_ t' bT v (key _ _ _ h),fun s bT v h=>hI.tm s bT v (key _ _ _ h),hI.ob,hI.st,hI.fresh,hI.rt⟩
theorem rk(σ:AS S)(t:Nat):look (σ.fb+t) (σ.df t).tm=none:=by
 unfold AS.df;simp only;rw[rL,if_pos rfl]
theorem ri{t u:Nat}(h:look (σ.fb+u) σ.tm=none):look (σ.fb+u) (σ.df t).tm=none:=by
 unfold AS.df;simp only;rw[rL];split
 . rfl
 . exact h
theorem BP(hI:Inv K n ds B m0 rb σ g a m L){t:Nat}(ht:look (σ.fb+t) σ.tm=none)(v:Value):Inv K n ds B m0 rb σ g (a.put (some t) v) m L:=
 ⟨by simp[Act.put,hI.size],hI.defers,fun t' bT x h=>by
  rw[Act.eval_put (fun d hd e=>by cases hd;cases e;rw[ht]at h;cases h)];exact hI.at_ t' bT x h,hI.tm,hI.ob,hI.st,hI.fresh,hI.rt⟩
theorem qg:∀{ob:List (Nat×Nat×AO S)} {L:List bR} {q ver:Nat} {ao:AO S},eW K g m ob L->look q ob=some (ver,ao)->∃e∈L,g.oo ver=some (ao,e)/\iY K g m q ao e
 |[],_,_,_,_,_,h=>by simp[look]at h
 |(u,x)::ob,L,q,ver,ao,⟨e,L',h0,h1,h2,h3⟩,h=>by
  subst h0;rw[bN]at h;split at h
  . rename_i hu;subst hu;cases h;exact⟨e,aq,h1,h2⟩
  . obtain⟨e',j1,j2⟩:=qg h3 h;exact⟨e',au _ j1,j2⟩
theorem tz{q o:Nat}(h:o≠q):∀{ob:List (Nat×Nat×AO S)},look o (dH [q] ob)=look o ob
 |[]=>rfl
 |(u,x)::ob=>by
  unfold dH;by_cases hu:u=q
  . subst hu;rw[show has u [u]=true from jM.2 aq];simp only;rw[tz h,bN,if_neg (Ne.symm h)]
  . rw[show has u [q]=false from by
     cases hb:has u [q]with
     |false=>rfl
     |true=>exact absurd (List.mem_singleton.1 (jM.1 hb)) hu]
    simp only;rw[bN,bN,tz h]
theorem xC{b:Nat}{o:Obj}(hI:Inv K n ds B m0 rb σ g a m L)(h:bR.obj b o∈L):m.w.heap[b]?=some o:=hI.st.ow.ok (.obj b o) (aU _ h)
structure Yd(K:ep tb)(σ:AS S)(g:GG S)(a:Act)(m:Mem)(q it ver o ver2:Nat)(t:TypeId)(kc vc:Co)(st:Option (Option (T S kc)))(l:List (T S kc×T S vc))(gq:Gh)(r:Nat)(seen:Array Nat)(es:Array MapEntry):Prop where
 lq:look q σ.ob=some (ver,.sD kc o st)
 lo:look o σ.ob=some (ver2,.lD t kc vc l none q)
 bk:g.bk q=some gq
 gr:gq.g=some r
 ev:a.eval (.tmp it)=.pointer (some ⟨r,0,none⟩)
 hr:m.w.heap[r]?=some (.mapIter (some gq.cap) gq.n seen gq.n)
 hb:m.w.heap[gq.cap]?=some (.map es gq.n)
 itr:itR K m kc gq.sk seen st
 mp:jZ (dv K kc m) (fun y v=>RK K vc m y [v]) es gq.n l
 sk:es.toList.map (fun e=>(e.key,e.born))=gq.sk
theorem WA{q it:Nat}(hI:Inv K n ds B m0 rb σ g a m L)(h:L5 q it σ=true):∃ver o ver2 t kc vc st l gq r seen es,Yd K σ g a m q it ver o ver2 t kc vc st l gq r seen es:=by
 unfold L5 at h;split at h
 . rename_i bT q' ver kc o st hit hq;split at h
   . rename_i ver2 t kc' vc l q2 ho;simp only[al]at h;obtain⟨e1,e2,e3⟩:=h;obtain rfl:=ah e1;obtain rfl:=ah e2;split at e3
     . rename_i hk _;subst hk;obtain⟨h1,h2⟩:=hI.slot hit;simp only[bP,bM]at h2;obtain⟨gq,r,k1,k2,k3⟩:=h2;obtain⟨e,he,_,gh,go,r',seen,j1,j2,j3,j4,rfl,j6⟩:=qg hI.ob hq;rw[k1]at j1;cases j1;rw[k2]at j2;cases j2;obtain⟨e2,he2,_,gm,b,es,gq',m1,m2,m3,m4,rfl,m5,m6,m7⟩:=qg hI.ob ho;rw[k1]at m3;cases m3;rw[m1]at j3;cases j3;exact⟨ver,o,ver2,t,_,vc,st,l,gq,r,seen,es,hq,ho,k1,k2,by simpa using k3,xC hI he,by rw[m4];exact xC hI he2,j6,m5,m7⟩
     . cases e3
   . cases h
 . cases h
theorem WC{q it nx c ver o ver2 r:Nat}{t:TypeId}{kc vc kx:Co}{st:Option (Option (T S kc))}{l:List (T S kc×T S vc)}{gq:Gh}{seen:Array Nat}{es:Array MapEntry}{x:T S kx}
 (hI:Inv K n ds B m0 rb σ g a m L) (hA:Yd K σ g a m q it ver o ver2 t kc vc st l gq r seen es) (h:Qo q it nx c x σ=some σ2) {w1:World} (hw1:w1=m.w\/w1=m.w.drew) {j:Nat} {p:Value×Nat} (hsk:gq.sk[j]?=some p) (hx:dv K kx m x p.1) (v1 v2:Value):
 ∃g2 m2 L2,m2.w=setBlock w1 r (.mapIter (some gq.cap) gq.n (seen.push p.2) gq.n)/\Le m m2/\GE g g2/\Inv K n ds B m0 rb σ2 g2 ((a.put (some nx) v1).put (some c) v2) m2 L2/\∃ao,g2.oo (σ.ct+32)=some (ao,.obj r (.mapIter (some gq.cap) gq.n (seen.push p.2) gq.n)):=by
 unfold Qo at h
 rw[hA.lq]at h
 simp only at h
 split at h
 case h_2=>cases h
 case h_1 hk hat _=>
 subst hk
 cases h
 have hI1:=th (th hI nx) c
 have hI2:Inv K n ds B m0 rb ((σ.df nx).df c) g ((a.put (some nx) v1).put (some c) v2) m L:=
  BP (BP hI1 (ri (σ:=σ.df nx) (rk σ nx)) v1) (rk (σ.df nx) c) v2
 obtain⟨e,L0,Rst,ho,hperm,hob⟩:=nv (X:=[]) hI2.ob (show look q ((σ.df nx).df c).ob=some (ver,.sD kx o st) from hA.lq)
 have hmem:e∈L:=hperm.mem_iff.2 aq
 obtain⟨gh,go,r',seen',j1,j2,j3,j4,rfl,j6⟩:=ho
 rw[hA.bk]at j1;cases j1
 rw[hA.gr]at j2;cases j2
 have hh:=xC hI hmem
 rw[hA.hr]at hh
 cases hh
 have hst:=hI2.st.perm (hperm.append_right ds.X)
 have hr1:w1.heap[r]?=some (.mapIter (some gq.cap) gq.n seen gq.n):=by rcases hw1 with rfl|rfl<;>exact hA.hr
 have hw:m.w.grownBy (setBlock w1 r (.mapIter (some gq.cap) gq.n (seen.push p.2) gq.n)) (some r):=by
  rcases hw1 with rfl|rfl<;>exact⟨rfl,rfl,rfl,by simp[setBlock],fun i _ hi=>by
   have hne:r≠i:=fun e=>hi (by rw[e])
   first|(simp[setBlock,hne];done)|(simp[setBlock,hne];rfl)⟩
 have hsz:(setBlock w1 r (.mapIter (some gq.cap) gq.n (seen.push p.2) gq.n)).heap.size=m.w.heap.size:=by rcases hw1 with rfl|rfl<;>simp[setBlock]
 have hbb:(setBlock w1 r (.mapIter (some gq.cap) gq.n (seen.push p.2) gq.n)).heap[r]?=some (.mapIter (some gq.cap) gq.n (seen.push p.2) gq.n):=by
  have hlt:r<w1.heap.size:=(Array.getElem?_eq_some_iff.1 hr1).1;simp[setBlock,hlt]
 have hst':St B m0 m (bR.obj r (.mapIter (some gq.cap) gq.n seen gq.n)::((L0++Rst)++ds.X)):=hst
 have hS:=hst'.lN hw hsz hbb
 have hle:Le m ⟨setBlock w1 r (.mapIter (some gq.cap) gq.n (seen.push p.2) gq.n),m.ok⟩:=((St.refl hst'.ow).lN hw hsz hbb).le
 have hS2:St B m0 ⟨setBlock w1 r (.mapIter (some gq.cap) gq.n (seen.push p.2) gq.n),m.ok⟩ ((bR.obj r (.mapIter (some gq.cap) gq.n (seen.push p.2) gq.n)::L0)++ds.X):=by
  have h5:List.Perm (bR.obj r (.mapIter (some gq.cap) gq.n (seen.push p.2) gq.n)::((L0++Rst)++ds.X)) (((bR.obj r (.mapIter (some gq.cap) gq.n (seen.push p.2) gq.n)::L0)++ds.X)++Rst):=by
   simp only[aV,az];exact List.Perm.cons _ (aY L0 aK)
  exact(hS.perm h5).ox
 have hI3:Inv K n ds B m0 rb {(σ.df nx).df c with ob:=dH [q] ((σ.df nx).df c).ob} g ((a.put (some nx) v1).put (some c) v2) ⟨setBlock w1 r (.mapIter (some gq.cap) gq.n (seen.push p.2) gq.n),m.ok⟩ L0:=
  ⟨hI2.size,hI2.defers,hI2.at_,fun s bT v h=>(let⟨u,k1,k2⟩:=hI2.tm s bT v h;⟨u,k1,k2.mono (GE.refl g) hle⟩),hob.mono (GE.refl g) hle,by
   have h5:List.Perm ((bR.obj r (.mapIter (some gq.cap) gq.n (seen.push p.2) gq.n)::L0)++ds.X) ((L0++ds.X)++[bR.obj r (.mapIter (some gq.cap) gq.n (seen.push p.2) gq.n)]):=by
    rw[aV];exact(List.perm_append_singleton _ _).symm
   exact(hS2.perm h5).ox,hI2.fresh,hI2.rt⟩
 have hobj:iY K g ⟨setBlock w1 r (.mapIter (some gq.cap) gq.n (seen.push p.2) gq.n),m.ok⟩ q (.sD kx o (some (some (AK rfl x)))) (.obj r (.mapIter (some gq.cap) gq.n (seen.push p.2) gq.n)):=
  ⟨gq,go,r,seen.push p.2,hA.bk,hA.gr,j3,j4,rfl,j,p,hsk,by simp,dv.mono K hle hx⟩
 obtain⟨g2,k1,k2⟩:=sM hI3 hobj hS2
 refine⟨g2,_,_,rfl,hle,k1,k2,.sD kx o (some (some (AK rfl x))),?_⟩
 obtain⟨e,L',h0,h1,_⟩:=k2.ob
 cases h0
 exact h1
theorem Ta{q it nx c ver o ver2 r:Nat}{t:TypeId}{kc vc:Co}{st:Option (Option (T S kc))}{l:List (T S kc×T S vc)}{gq:Gh}{seen:Array Nat}{es:Array MapEntry}
 (hI:Inv K n ds B m0 rb σ g a m L) (hA:Yd K σ g a m q it ver o ver2 t kc vc st l gq r seen es) (h:FJ q it nx c σ=some σ2) (v1 v2:Value):
 ∃g2 L2,GE g g2/\Inv K n ds B m0 rb σ2 g2 ((a.put (some nx) v1).put (some c) v2) m L2:=by
 unfold FJ at h
 rw[hA.lq]at h
 simp only at h
 rw[hA.lo]at h
 split at h
 case h_2=>cases h
 case h_1 e1 _=>
 cases e1
 cases h
 have hI1:=th (th (th hI nx) c) it
 have hI2:Inv K n ds B m0 rb (((σ.df nx).df c).df it) g ((a.put (some nx) v1).put (some c) v2) m L:=
  BP (BP hI1 (ri (σ:=(σ.df nx).df c) (ri (σ:=σ.df nx) (rk σ nx))) v1) (ri (σ:=(σ.df nx).df c) (rk (σ.df nx) c)) v2
 have hoq:o≠q:=fun e=>by
  have h1:=hA.lq;have h2:=hA.lo;rw[e,h1]at h2;cases h2
 obtain⟨e,L0,Rst,ho,hperm,hob⟩:=nv (X:=[]) hI2.ob (show look q (((σ.df nx).df c).df it).ob=some (ver,.sD kc o st) from hA.lq)
 have hI3:Inv K n ds B m0 rb {(((σ.df nx).df c).df it)with ob:=dH [q] (((σ.df nx).df c).df it).ob} g ((a.put (some nx) v1).put (some c) v2) m L0:=
  ⟨hI2.size,hI2.defers,hI2.at_,hI2.tm,hob,by
   have h5:List.Perm ((e::(L0++Rst))++ds.X) ((L0++ds.X)++(e::Rst)):=by
    show List.Perm (e::((L0++Rst)++ds.X)) _;refine(List.Perm.cons _ ?_).trans (List.perm_middle (l₁:=L0++ds.X) (l₂:=Rst) (a:=e)).symm;rw[az,az];exact aY L0 aK
   exact((hI2.st.perm (hperm.append_right _)).perm h5).ox,hI2.fresh,hI2.rt⟩
 obtain⟨e2,L1,Rst2,ho2,hperm2,hob2⟩:=nv (X:=[]) hI3.ob (show look o (dH [q] (((σ.df nx).df c).df it).ob)=some (ver2,.lD t kc vc l none q) from by rw[tz hoq];exact hA.lo)
 have hp2:List.Perm ((e2::(L1++Rst2))++ds.X) (((e2::L1)++ds.X)++Rst2):=by
  simp only[aV,az];exact List.Perm.cons _ (aY L1 aK)
 have hS2:St B m0 m ((e2::L1)++ds.X):=((hI3.st.perm (hperm2.append_right _)).perm hp2).ox
 have hI4:Inv K n ds B m0 rb {(((σ.df nx).df c).df it)with ob:=dH [o] (dH [q] (((σ.df nx).df c).df it).ob)} g ((a.put (some nx) v1).put (some c) v2) m L1:=
  ⟨hI2.size,hI2.defers,hI2.at_,hI2.tm,hob2,by
   have h5:List.Perm ((e2::L1)++ds.X) ((L1++ds.X)++[e2]):=by
    rw[aV];exact(List.perm_append_singleton _ _).symm
   exact(hS2.perm h5).ox,hI2.fresh,hI2.rt⟩
 obtain⟨gm,b,es',gq',m1,m2,m3,m4,rfl,m5,m6,m7⟩:=ho2
 obtain⟨g2,k1,k2⟩:=sM hI4 (q:=o) (ao:=.map t kc vc l none) (e:=.obj b (.map es' gq'.n)) ⟨gm,b,es',gq'.n,m1,m2,rfl,m5,trivial⟩ hS2
 exact⟨g2,_,k1,k2⟩
theorem WB{q it nx c:Nat}{kc:Co}{x:T S kc}(h:Qo q it nx c x σ=some σ2):L5 q it σ=true:=by
 unfold Qo at h;split at h
 . split at h
   . rename_i hb;exact hb
   . cases h
 . cases h
theorem S9{q it nx c:Nat}(h:FJ q it nx c σ=some σ2):L5 q it σ=true:=by
 unfold FJ at h;split at h
 . split at h
   . rename_i hb;exact hb
   . cases h
 . cases h
theorem Qv{α:Type}(l:List α):(List.range l.length).filterMap (fun i=>l[i]?)=l:=by
 have key:∀k,k<=l.length->(List.range k).filterMap (fun i=>l[i]?)=l.take k:=fun k=>by
  induction k with
  |zero=>intro _;simp
  |succ k ih=>
   intro h
   rw[List.range_succ,List.filterMap_append,ih (by omega),List.take_succ_eq_append_getElem (by omega)]
   simp[show k<l.length by omega]
 rw[key _ (Nat.le_refl _),List.take_length]
end E
end
end Go.Proofs.YtjfkdglgecgjfaaGreat
