/- Part of the proof. -/
import Derived.Test.YtjfkdglgecgjfaaGreatZEvC
namespace Go.Proofs.YtjfkdglgecgjfaaGreat
section
open Go.RowKit G
namespace E
variable {S:Nat->Type}{tb:Tb S}{K:db tb}{P:Program}{tt:TypeId->Option (TI S)}{Φ:List (jr S)}{fa:FA S}{o:Oper}{xs:List (AV S)}{ob:List (Nat×Nat×AO S)}{ct:Nat}{γ:Type}{k:ek S->Option γ}{r:γ}
theorem yx{c:Call}{b:Builtin}(hc:c.callee=.builtin b)(ho:o.op=.call c)(hl:xs.length=o.op.operands.toList.length)(h1:xs.length=1):∃x,c.args= #[x]:=by
 rw[ho]at hl;simp[Op.operands,Call.operands,hc,h1]at hl;obtain⟨x,hx⟩:=Array.size_eq_one_iff.1 hl.symm;exact⟨x,hx⟩
theorem kV{c:Call}{b:Builtin}(hc:c.callee=.builtin b)(ho:o.op=.call c)(hl:xs.length=o.op.operands.toList.length)(h1:xs.length=2):∃x y,c.args= #[x,y]:=by
 rw[ho]at hl;simp[Op.operands,Call.operands,hc,h1]at hl
 match hc:c.args with
 |⟨[x,y]⟩=>exact⟨x,y,rfl⟩
 |⟨[]⟩=>rw[hc]at hl;simp at hl
 |⟨[_]⟩=>rw[hc]at hl;simp at hl
 |⟨_::_::_::_⟩=>rw[hc]at hl;simp at hl
theorem Dc(hT:cu P K tt)(hΦ:∀c∈Φ,Sound P K c)(hl:xs.length=o.op.operands.toList.length)(h:core tb tt Φ fa o xs ob ct k=some r):cH P K o xs ob ct k r:=by
 unfold core at h;split at h
 case h_1 ho=>split at h;exact qP (.inl ho) h;cases h
 case h_2 ho=>split at h;exact qP (.inr ho) h;cases h
 case h_3 ho=>split at h;exact yw ho h;cases h
 case h_4 ho=>split at h;exact pC ho h;cases h
 case h_5 ho=>
  split at h
  . exact ni ho h
  . cases h
 case h_6 ho=>split at h;exact M9 hT ho h;cases h
 case h_7 ho=>split at h;exact O0 ho h;cases h
 case h_8 ho=>split at h;exact Kd hT ho h;cases h
 case h_9 ho=>
  split at h
  . obtain⟨ti,hti,h⟩:=aa.1 h
    split at h
    . rename_i fs hd
      obtain⟨f,hf,h⟩:=aa.1 h
      exact l7 hT ho hti hd hf h
    . cases h
  . cases h
 case h_10 ho=>
  split at h
  . obtain⟨ti,hti,h⟩:=aa.1 h
    split at h
    . rename_i fs hd
      obtain⟨f,hf,h⟩:=aa.1 h
      obtain⟨fi,hfi,h⟩:=aa.1 h
      exact vh hT ho hti hd hf hfi h
    . cases h
  . cases h
 case h_11 ho=>
  obtain⟨ti,hti,h⟩:=aa.1 h
  obtain⟨cs,hcs,h⟩:=aa.1 h
  exact ve hT ho hti h hcs
 case h_12 ho=>
  obtain⟨vs,hvs,h⟩:=aa.1 h
  exact ng ho hvs h
 case h_13 ho=>
  obtain⟨ti,hti,h⟩:=aa.1 h
  exact vd hT ho hti h
 case h_14 ho=>
  split at h
  . obtain⟨cs,hcs,h⟩:=aa.1 h
    exact Cg ho hcs h
  . cases h
 case h_15 ho=>split at h;exact yt hT ho h;cases h
 case h_16 ho=>split at h;exact vk hT ho h;cases h
 case h_17 ho=>
  split at h
  . obtain⟨i,hi,h⟩:=aa.1 h
    exact l8 hT ho hi h
  . cases h
 case h_18 ho=>
  obtain⟨ti,hti,h⟩:=aa.1 h
  split at h
  . rename_i hd _
    obtain⟨i,hi,h⟩:=aa.1 h
    obtain⟨c,hc,h⟩:=aa.1 h
    have htd:=(hT.ty _ ti hti).td
    rw[hd]at htd
    exact vi ho htd hi hc h
  . rename_i hd _
    obtain⟨ei,hei,h⟩:=aa.1 h
    obtain⟨i,hi,h⟩:=aa.1 h
    have htd:=(hT.ty _ ti hti).td
    rw[hd]at htd
    split at h
    . rename_i h1 h2 h3
      obtain⟨u,hc,hk⟩:=aa.1 h
      have h1:=af h1
      subst h1
      exact Av hT ho htd hei (af h2) h3 hi (dG hc) hk
    . cases h
  . cases h
 case h_19 ho=>
  split at h
  . obtain⟨⟨a1,a2⟩,ha,h⟩:=aa.1 h
    obtain⟨⟨b1,b2⟩,hb,h⟩:=aa.1 h
    obtain⟨⟨c1,c2⟩,hc,h⟩:=aa.1 h
    split at h
    . split at h
      . exact Fb hT ho ha hb hc h
      . exact Ax hT ho ha hb hc h
    . split at h
      . exact Kh hT ho ha hb hc h
      . exact ok_slice hT ho ha hb hc h
  . cases h
 case h_20 ho=>
  obtain⟨ec,hec,h⟩:=aa.1 h
  obtain⟨ei,hei,h⟩:=aa.1 h
  exact kb hT ho hec hei h
 case h_21 ho=>
  split at h
  . split at h
    . rename_i i hi
      exact pD hT ho hi h
    . split at h
      . rename_i i hi
        exact Au hT ho hi h
      . obtain⟨i,hi,h⟩:=aa.1 h
        exact Aw hT ho hi h
  . cases h
 case h_22 ho=>
  split at h
  . split at h
    . exact rV hT ho h
    . split at h
      . exact Hz hT ho h
      . exact Cj hT ho h
    . exact Ck hT ho h
  . cases h
 case h_23 ho=>split at h;exact nh hT ho h;cases h
 case h_24 ho=>split at h;exact wc hT ho h;cases h
 case h_25 ho=>
  split at h
  . split at h
    . exact yu hT ho h
    . split at h
      . exact Kf hT ho h
      . cases h
    . exact DW hT (.inl ho) h
  . cases h
 case h_26 ho=>split at h;exact vj hT ho h;cases h
 case h_27 ho=>split at h;exact vg hT ho h;cases h
 case h_28 ho=>
  split at h
  . rename_i hxy
    obtain⟨n,hn,h⟩:=aa.1 h
    obtain⟨ec,hec,h⟩:=aa.1 h
    obtain⟨ei,hei,h⟩:=aa.1 h
    split at h
    . rename_i h1 hA
      obtain⟨z,hz,h⟩:=aa.1 h
      obtain⟨u,hu,h⟩:=aa.1 h
      exact l9 hT ho hxy hn hec hei h1 hA hz hu h
    . cases h
  . cases h
 case h_29 c ho=>
  split at h
  . rename_i b hb
    obtain⟨ce,ca,cts⟩:=c
    simp only at hb
    subst hb
    split at h
    . split at h
      . rename_i t ht
        obtain⟨x,hx⟩:=yx rfl ho hl rfl
        simp only at hx ht
        subst hx
        have:cts= #[t]:=by apply Array.ext';simpa using ht
        subst this
        exact Nb hT ho h
      . cases h
    . split at h
      . rename_i t t' ht
        split at h
        . rename_i he
          obtain rfl:=af he
          obtain⟨x,y,hx⟩:=kV rfl ho hl rfl
          simp only at hx ht
          subst hx
          have:cts= #[t,t]:=by apply Array.ext';simpa using ht
          subst this
          split at h
          . exact Ce hT ho h
          . exact rT hT ho h
        . obtain⟨x,y,hx⟩:=kV rfl ho hl rfl
          simp only at hx ht
          subst hx
          have:cts= #[t,t']:=by apply Array.ext';simpa using ht
          subst this
          exact Cf hT ho h
      . cases h
    . split at h
      . rename_i t t' ht
        obtain⟨x,y,hx⟩:=kV rfl ho hl rfl
        simp only at hx ht
        subst hx
        have:cts= #[t,t']:=by apply Array.ext';simpa using ht
        subst this
        exact yr hT ho h
      . cases h
    . split at h
      . rename_i t ht
        obtain⟨x,hx⟩:=yx rfl ho hl rfl
        simp only at hx ht
        subst hx
        have:cts= #[t]:=by apply Array.ext';simpa using ht
        subst this
        exact vf hT ho h
      . cases h
    . split at h
      . rename_i t t' ht
        obtain⟨x,y,hx⟩:=kV rfl ho hl rfl
        simp only at hx ht
        subst hx
        have:cts= #[t,t']:=by apply Array.ext';simpa using ht
        subst this
        exact rU hT ho h
      . cases h
    . split at h
      . rename_i t ht
        obtain⟨ec,hec,h1⟩:=aa.1 h
        obtain⟨x,hx⟩:=yx rfl ho hl rfl
        simp only at hx ht
        subst hx
        have:cts= #[t]:=by apply Array.ext';simpa using ht
        subst this
        exact Na hT ho hec h1
      . cases h
    . obtain⟨p,hp,h⟩:=aa.1 h
      obtain⟨q,hq,h⟩:=aa.1 h
      split at h
      . rename_i hk _
        obtain⟨x,y,hx⟩:=kV rfl ho hl rfl
        simp only at hx
        subst hx
        exact Nd ho hp hq h hk
      . cases h
    . obtain⟨p,hp,h⟩:=aa.1 h
      obtain⟨q,hq,h⟩:=aa.1 h
      split at h
      . rename_i hk _
        obtain⟨x,y,hx⟩:=kV rfl ho hl rfl
        simp only at hx
        subst hx
        exact Nc ho hp hq h hk
      . cases h
    . cases h
  . rename_i y hy
    obtain⟨ce,ca,cts⟩:=c
    simp only at hy
    subst hy
    split at h
    . split at h
      . rename_i hb
        exact yp hΦ ho (aj hb) h
      . cases h
    . obtain⟨a,_,h⟩:=aa.1 h
      split at h
      . exact HB hΦ ho h
      . cases h
    . cases h
  . cases h
 case h_30 ho=>split at h;exact DW hT (.inr ho) h;cases h
 case h_31=>cases h
theorem JL{v:CV S}{k:Bool->Option γ}{δ:Type}{j:Bool->Option δ}{f:δ->Option γ}(h:∀b,k b=(j b).bind f):MS v k=(MS v j).bind f:=by
 unfold MS;split
 . exact h _
 . split<;>exact h _
 . rfl
theorem bind_eq{α β:Type}{x:Option α}{f g:α->Option β}(h:∀a,f a=g a):x.bind f=x.bind g:=by cases x;rfl;exact h _
theorem KW{op:UnOp}{v:CV S}:NM op v k=(NM op v some).bind k:=by
 unfold NM;(repeat' (first|rfl|(simp only[aB,ah,aE])|(refine bind_eq fun _=>?_)|split))
theorem BT{f:TypeId×Nat×Nat}{v:CV S}:pn f v k=(pn f v some).bind k:=by
 unfold pn;(repeat' (first|rfl|(simp only[aB,ah,aE])|(refine bind_eq fun _=>?_)|split))
theorem EA{s d:TypeId}{v:CV S}:wu tt s d v ob k=(wu tt s d v ob some).bind k:=by
 unfold wu;(repeat' (first|rfl|(simp only[aB,ah,aE])|(refine bind_eq fun _=>?_)|split))
theorem Ha{t:TypeId}{v:CV S}:EY tt t v ob k=(EY tt t v ob some).bind k:=by
 unfold EY;(repeat' (first|rfl|(simp only[aB,ah,aE])|(refine bind_eq fun _=>?_)|split))
theorem zm{t:TypeId}{v w:CV S}:nM tt fa t v w ob ct k=(nM tt fa t v w ob ct some).bind k:=by
 unfold nM;(repeat' (first|rfl|(simp only[aB,ah,aE])|(refine bind_eq fun _=>?_)|split))
theorem xw{t tx:TypeId}{v w:CV S}:km tb tt t tx v w ob ct k=(km tb tt t tx v w ob ct some).bind k:=by
 unfold km;(repeat' (first|rfl|(simp only[aB,ah,aE])|(refine bind_eq fun _=>?_)|split))
theorem vM{t:TypeId}{v:CV S}{a b c:Option Int}:pL tt t v a b c ob ct k=(pL tt t v a b c ob ct some).bind k:=by
 unfold pL;(repeat' (first|rfl|(simp only[aB,ah,aE])|(refine bind_eq fun _=>?_)|split))
theorem BC{t:TypeId}{v:CV S}:rp tb tt t v ob k=(rp tb tt t v ob some).bind k:=by
 unfold rp;(repeat' (first|rfl|(simp only[aB,ah,aE])|(refine bind_eq fun _=>?_)|split))
theorem xv{t:TypeId}{q:Nat}{d:Co}{l:List (T S d)}{o off n:Nat}{i j:Int}:kj tt t q d l o off n i j ob ct k=(kj tt t q d l o off n i j ob ct some).bind k:=by
 unfold kj;(repeat' (first|rfl|(simp only[aB,ah,aE])|(refine bind_eq fun _=>?_)|split))
theorem A0{t:TypeId}{o off:Nat}{lo hi mx:Option Int}:oy tt t o off lo hi mx ob k=(oy tt t o off lo hi mx ob some).bind k:=by
 unfold oy;(repeat' (first|rfl|(simp only[aB,ah,aE])|(refine bind_eq fun _=>?_)|split))
theorem Fe{t:TypeId}{v:CV S}{a b c:Option Int}:w9 tt t v a b c ob ct k=(w9 tt t v a b c ob ct some).bind k:=by
 unfold w9;split
 . (repeat' (first|rfl|(simp only[aB,ah,aE])|(refine bind_eq fun _=>?_)|split))
 . exact vM
theorem A1{t:TypeId}{o off:Nat}{a b c:Option Int}:oz tt t o off a b c k=(oz tt t o off a b c some).bind k:=by
 unfold oz;(repeat' (first|rfl|(simp only[aB,ah,aE])|(refine bind_eq fun _=>?_)|split))
theorem EC{t:TypeId}{v w:CV S}:wy tt t v w ob k=(wy tt t v w ob some).bind k:=by
 unfold wy xF;(repeat' (first|rfl|(simp only[aB,ah,aE])|(refine bind_eq fun _=>?_)|split))
theorem B2{t:TypeId}{y:Operand}{v:CV S}{i:Int}:rK tt t y v i ob k=(rK tt t y v i ob some).bind k:=by
 unfold rK;(repeat' (first|rfl|(simp only[aB,ah,aE])|(refine bind_eq fun _=>?_)|split))
theorem E0{t:TypeId}{v:CV S}:wR tb tt t v ob k=(wR tb tt t v ob some).bind k:=by
 unfold wR n6;(repeat' (first|rfl|(simp only[aB,ah,aE])|(refine bind_eq fun _=>?_)|split))
theorem CD{t:TypeId}{p:CV S}{a:AV S}:sA tb tt t p a ob k=(sA tb tt t p a ob some).bind k:=by
 unfold sA;(repeat' (first|rfl|(simp only[aB,ah,aE])|(refine bind_eq fun _=>?_)|split))
theorem Hr{op:BinOp}{kv kw:IntKind}{x z:Int}{y:Operand}{k:CV S->Option γ}{δ:Type}{j:CV S->Option δ}{f:δ->Option γ}(h:∀v,k v=(j v).bind f):ka op kv kw x z y k=(ka op kv kw x z y j).bind f:=by
 unfold ka;simp only[h];(repeat' (first|rfl|(simp only[aB,ah,aE])|(refine bind_eq fun _=>?_)|split))
theorem Dk{op:BinOp}{t:TypeId}{a b:AV S}{k:CV S->Option γ}{δ:Type}{j:CV S->Option δ}{f:δ->Option γ}(h:∀v,k v=(j v).bind f):Mw tt op t a b k=(Mw tt op t a b j).bind f:=by
 unfold Mw jc;simp only[h];(repeat' (first|rfl|(simp only[aB,ah,aE])|(refine bind_eq fun _=>?_)|split))
theorem F9{op:BinOp}{t:TypeId}{y:Operand}{a b:AV S}{k:CV S->Option γ}{δ:Type}{j:CV S->Option δ}{f:δ->Option γ}(h:∀v,k v=(j v).bind f):Eu tt op t y a b k=(Eu tt op t y a b j).bind f:=by
 unfold Eu;split
 . split
   . exact Hr h
   . exact Dk h
 . exact Dk h
theorem zl{δ:Type}{f:δ->Option γ}:∀{os:List Out} {y:ig S os} {k:(o:Out)->HT S o.oV->Option γ} {j:(o:Out)->HT S o.oV->Option δ},(∀o z,k o z=(j o z).bind f)->I2 os y k=(I2 os y j).bind f
 |[],_,_,_,_=>rfl
 |[o],y,_,_,h=>h o y
 |o::_::_,Sum.inl z,_,_,h=>h o z
 |_::p::os,Sum.inr _,_,_,h=>zl (os:=p::os) h
theorem iJ{f:FuncId}{args:List (AV S)}:∀{Φ:List (jr S)},jD tb f args ob ct k Φ=(jD tb f args ob ct some Φ).bind k
 |[]=>rfl
 |c::cs=>by
  simp only[jD];split
  . exact iJ
  . split
    . exact iJ
    . rw[aB];refine bind_eq fun y=>zl fun o z=>?_
      split
      . rfl
      . rfl
theorem E1{t:TypeId}{v:CV S}{key:AV S}{c:Bool}:wS tb tt t v key c ob k=(wS tb tt t v key c ob some).bind k:=by
 unfold wS;(repeat' (first|rfl|(simp only[aB,ah,aE])|(refine bind_eq fun _=>?_)|split))
theorem HJ{t:TypeId}{v:CV S}{key w:AV S}:gM tb tt t v key w ob k=(gM tb tt t v key w ob some).bind k:=by
 unfold gM;(repeat' (first|rfl|(simp only[aB,ah,aE])|(refine bind_eq fun _=>?_)|split))
theorem Gq{t:TypeId}{v:CV S}{key:AV S}:EG tb tt t v key ob k=(EG tb tt t v key ob some).bind k:=by
 unfold EG;(repeat' (first|rfl|(simp only[aB,ah,aE])|(refine bind_eq fun _=>?_)|split))
theorem BX{t:TypeId}{v:CV S}{key:AV S}{c:Bool}:rG tb tt t v key c ob k=(rG tb tt t v key c ob some).bind k:=by
 unfold rG;(repeat' (first|rfl|(simp only[aB,ah,aE])|(refine bind_eq fun _=>?_)|split))
theorem E6{t:TypeId}{v:CV S}{key:AV S}:wV tb tt t v key ob ct k=(wV tb tt t v key ob ct some).bind k:=by
 unfold wV;(repeat' (first|rfl|(simp only[aB,ah,aE])|(refine bind_eq fun _=>?_)|split))
theorem Cn{t:TypeId}{v:CV S}:sm tb tt t v ob ct k=(sm tb tt t v ob ct some).bind k:=by
 unfold sm;(repeat' (first|rfl|(simp only[aB,ah,aE])|(refine bind_eq fun _=>?_)|split))
theorem BL{v:CV S}:rA tb tt v ob k=(rA tb tt v ob some).bind k:=by
 unfold rA;(repeat' (first|rfl|(simp only[aB,ah,aE])|(refine bind_eq fun _=>?_)|split))
theorem GC{t:TypeId}{v s:CV S}{w:AV S}:EM tb tt t v s w ob k=(EM tb tt t v s w ob some).bind k:=by
 unfold EM;(repeat' (first|rfl|(simp only[aB,ah,aE])|(refine bind_eq fun _=>?_)|split))
theorem B0{t:TypeId}{v:CV S}{key:AV S}{c:Bool}:rJ tb tt t v key c ob ct k=(rJ tb tt t v key c ob ct some).bind k:=by
 unfold rJ;(repeat' (first|rfl|(simp only[aB,ah,aE])|(refine bind_eq fun _=>?_)|split))
theorem ET{t:TypeId}{v w:CV S}{key:AV S}:wL tb tt t v key w ob k=(wL tb tt t v key w ob some).bind k:=by
 unfold wL Dx;(repeat' (first|rfl|(simp only[aB,ah,aE])|(refine bind_eq fun _=>?_)|split))
theorem wQ{t:TypeId}{v:CV S}{key w:AV S}:uU tb tt t v key w ob k=(uU tb tt t v key w ob some).bind k:=by
 unfold uU;(repeat' (first|rfl|(simp only[aB,ah,aE])|(refine bind_eq fun _=>?_)|split))
theorem wN{q:Nat}{c:Co}{x:T S c}:∀{l:List (T S c×CV S)},uT tb q c x k l=(uT tb q c x some l).bind k
 |[]=>rfl
 |p::l=>by
  unfold uT;split
  . rfl
  . exact wN
theorem B4{t:TypeId}{v:CV S}{key:AV S}{c:Bool}:rN tb tt t v key c ob k=(rN tb tt t v key c ob some).bind k:=by
 unfold rN;(repeat' (first|rfl|exact wN|(simp only[aB,ah,aE])|(refine bind_eq fun _=>?_)|split))
theorem p9:core tb tt Φ fa o xs ob ct k=(core tb tt Φ fa o xs ob ct some).bind k:=by
 unfold core;split
 case h_3=>
  split
  . exact JL fun b=>by cases b<;>rfl
  . rfl
 case h_6=>
  split
  . exact F9 fun v=>rfl
  . rfl
 case h_7=>split;exact KW;rfl
 case h_8=>split;exact EA;rfl
 case h_9=>
  split
  . rw[aB]
    refine bind_eq fun ti=>?_
    split
    . rw[aB];exact bind_eq fun f=>BT
    . rfl
  . rfl
 case h_15=>split;exact E0;rfl
 case h_16=>split;exact CD;rfl
 case h_17=>split;(rw[aB];exact bind_eq fun i=>B2);rfl
 case h_19=>split;(simp only[aB];exact bind_eq fun a=>bind_eq fun b=>bind_eq fun c=>by split;split;exact A0;exact A1;split;exact Fe;exact vM);rfl
 case h_22=>
  split
  . split
    . exact E1
    . split
      . exact B0
      . exact BX
    . exact B4
  . rfl
 case h_23=>split;exact E6;rfl
 case h_24=>split;exact GC;rfl
 case h_25=>
  split
  . split
    . exact HJ
    . split
      . exact ET
      . rfl
    . exact wQ
  . rfl
 case h_26=>split;exact Cn;rfl
 case h_27=>split;exact BL;rfl
 case h_29=>
  split
  . split
    . split;exact Ha;rfl
    . split
      . split
        . split;exact xv;exact zm
        . exact xw
      . rfl
    . split;exact EC;rfl
    . split;exact BC;rfl
    . split;exact Gq;rfl
    . split
      . rw[aB];exact bind_eq fun _=>rfl
      . rfl
    . (repeat' (first|rfl|(simp only[aB,ah,aE])|(refine bind_eq fun _=>?_)|split))
    . (repeat' (first|rfl|(simp only[aB,ah,aE])|(refine bind_eq fun _=>?_)|split))
    . rfl
  . split
    . split;exact iJ;rfl
    . rw[aB]
      refine bind_eq fun a=>?_
      split
      . exact iJ
      . rfl
    . rfl
  . rfl
 case h_30=>split;exact wQ;rfl
 all_goals (repeat' (first|rfl|(simp only[aB,ah,aE])|(refine bind_eq fun _=>?_)|split))
end E
end
section
open Go.RowKit G
namespace E
variable {S:Nat->Type}{tb:Tb S}{K:db tb}{P:Program}{tt:TypeId->Option (TI S)}{g:GG S}{m:Mem}
structure Cx where
 d:List Deferred
 X:List bB
structure Inv(K:db tb)(n:Nat)(ds:Cx)(B:List Nat)(m0:Mem)(rb:Nat->Option Gh)(σ:AS S)(g:GG S)(a:Act)(m:Mem)(L:List bB):Prop where
 size:a.tmps.size=n
 defers:a.defers=ds.d
 at_:∀t bC v,look (σ.fb+t) σ.tm=some (bC,v)->g.vv bC=some (a.eval (.tmp t))
 tm:∀s bC v,look s σ.tm=some (bC,v)->∃u,g.vv bC=some u/\bu K g m v u
 ob:dg K g m σ.ob L
 st:St B m0 m (L++ds.X)
 fresh:∀i,σ.ct<=i->g.bk i=none/\g.vv i=none/\g.oo i=none
 rt:K.B m0/\∀(j q:Nat),σ.rt[j]?=some q->∃h,rb j=some h/\g.bk q=some h
theorem uj{v:Value}{c:CV S}(h:tw v=some c):bt K g m c [v]:=by
 unfold tw at h;split at h<;>first|(cases h;done)|skip
 . split at h
   . rename_i n hn _;cases h;simp only[bt];rw[kW,hn]
   . cases h
 all_goals (cases h;simp only[bt])
theorem mN:∀{vs:List Value} {cs:List (CV S)},kp vs=some cs->bT K g m cs vs
 |[],cs,h=>by simp only[kp,ae]at h;subst h;rfl
 |v::vs,cs,h=>by
  simp only[kp]at h;obtain⟨x,hx,h⟩:=aa.1 h;obtain⟨r,hr,rfl⟩:=ab.1 h;exact⟨[v],vs,rfl,uj hx,mN hr⟩
theorem MC{v w:Value}(h:GA v w=true):v=w:=by
 unfold GA at h;split at h<;>first|rfl|(cases h;done)|skip
 . simp only[al,bg]at h;obtain⟨rfl,rfl⟩:=h;rfl
 . simp only[beq_iff_eq]at h;subst h;rfl
 . rename_i s s';simp only[bg]at h;obtain⟨⟨l⟩⟩:=s;obtain⟨⟨l'⟩⟩:=s';simp only at h;subst h;rfl
theorem Dm:∀{vs ws:List Value},EL vs ws=true->vs=ws
 |[],[],_=>rfl
 |[],_::_,h=>by simp[EL]at h
 |_::_,[],h=>by simp[EL]at h
 |v::vs,w::ws,h=>by
  simp only[EL]at h;split at h
  . rename_i hv;rw[MC hv,Dm h]
  . cases h
theorem ui(hT:cu P K tt){t:TypeId}{v:Value}{x:AV S}(h:xC tt t v=some x):bu K g m x v:=by
 unfold xC at h;split at h
 . rename_i cs;split at h
   . rename_i i hi;split at h
     . rename_i he;cases h;simp only[bu];refine⟨cs.toList,by simp,?_⟩;rw[<- Dm he];exact fO (hT.ty t i hi).Jm
     . obtain⟨l,hl,rfl⟩:=ab.1 h;simp only[bu];exact⟨cs.toList,by simp,mN hl⟩
   . obtain⟨l,hl,rfl⟩:=ab.1 h;simp only[bu];exact⟨cs.toList,by simp,mN hl⟩
 . rename_i vs;split at h
   . rename_i hv;cases h;simp only[AV.dU,bu,b6];exact⟨[],by rw[<- hv],rfl⟩
   . cases h
 . obtain⟨l,hl,rfl⟩:=ab.1 h;simp only[bu];exact uj hl
section
variable {n:Nat}{ds:Cx}{B:List Nat}{m0:Mem}{rb:Nat->Option Gh}{σ:AS S}{a:Act}{L:List bB}
theorem Inv.slot(hI:Inv K n ds B m0 rb σ g a m L){t:Tmp}{bC:Nat}{v:AV S}(h:σ.get t=some (bC,v)):g.vv bC=some (a.eval (.tmp t))/\bu K g m v (a.eval (.tmp t)):=by
 have h1:=hI.at_ _ _ _ h;obtain⟨u,h2,h3⟩:=hI.tm _ _ _ h;rw[h1]at h2;cases h2;exact⟨h1,h3⟩
theorem vn(hT:cu P K tt)(hI:Inv K n ds B m0 rb σ g a m L){t:TypeId}{x:Operand}{v:AV S}(h:jP tt σ t x=some v):bu K g m v (a.eval x):=by
 cases x with
 |tmp u=>
  simp only[jP]at h
  obtain⟨⟨bC,v'⟩,hp,rfl⟩:=ab.1 h
  exact(hI.slot hp).2
 |const c=>exact ui hT h
 |func f=>
  simp only[jP,ae]at h
  subst h
  simp only[bu,bt]
  exact⟨[],[],rfl,by simp only[eE],by simp only[eE]⟩
 |global _=>simp[jP]at h
theorem yz(hT:cu P K tt)(hI:Inv K n ds B m0 rb σ g a m L):∀{l:List Operand} {ts:List TypeId} {xs:List (AV S)},kQ tt σ ts l=some xs->jx K g m a l xs/\xs.length=l.length
 |[],ts,xs,h=>by simp only[kQ,ae]at h;subst h;exact⟨rfl,rfl⟩
 |x::l,[],xs,h=>by
  simp only[kQ]at h;obtain⟨v,hv,h⟩:=aa.1 h;obtain⟨r,hr,rfl⟩:=ab.1 h;obtain⟨k1,k2⟩:=yz hT hI hr;exact⟨⟨v,r,rfl,vn hT hI hv,k1⟩,by simp[k2]⟩
 |x::l,t::ts,xs,h=>by
  simp only[kQ]at h;obtain⟨v,hv,h⟩:=aa.1 h;obtain⟨r,hr,rfl⟩:=ab.1 h;obtain⟨k1,k2⟩:=yz hT hI hr;exact⟨⟨v,r,rfl,vn hT hI hv,k1⟩,by simp[k2]⟩
theorem lW{bC:Nat}{b:Bool}:∀{l:List (Nat×Nat×AV S)} {s:Nat},look s (AX bC b l)=(look s l).map fun x=>if x.1=bC then(x.1,.one (.tt b))else x
 |[],s=>rfl
 |(t,v,x)::l,s=>by
  unfold AX;split
  . rename_i e;obtain rfl:=af e;rw[bA,bA];by_cases h:t=s
    . rw[if_pos h,if_pos h];simp
    . rw[if_neg h,if_neg h];exact lW
  . rename_i e;have e:v≠bC:=Nat.ne_of_beq_eq_false e;rw[bA,bA];by_cases h:t=s
    . rw[if_pos h,if_pos h];simp[e]
    . rw[if_neg h,if_neg h];exact lW
theorem jS(hI:Inv K n ds B m0 rb σ g a m L){bC:Nat}{b:Bool}(h:g.vv bC=some (.bool b)):Inv K n ds B m0 rb (σ.eV bC b) g a m L:=by
 have key:∀s vid' v,look s (σ.eV bC b).tm=some (vid',v)->∃v0,look s σ.tm=some (vid',v0)/\(v=v0\/vid'=bC/\v=.one (.tt b)):=fun s vid' v hs=>by
  unfold AS.eV at hs;rw[lW]at hs;obtain⟨⟨vid0,v0⟩,h0,h1⟩:=ab.1 hs;by_cases e:vid0=bC
  . rw[if_pos e]at h1;cases h1;exact⟨v0,h0,.inr ⟨e,rfl⟩⟩
  . rw[if_neg e]at h1;cases h1;exact⟨_,h0,.inl rfl⟩
 refine⟨hI.size,hI.defers,fun t vid' v hs=>?_,fun s vid' v hs=>?_,hI.ob,hI.st,hI.fresh,hI.rt⟩
 . obtain⟨v0,h0,_⟩:=key _ _ _ hs;exact hI.at_ _ _ _ h0
 . obtain⟨v0,h0,h1⟩:=key _ _ _ hs;rcases h1 with rfl|⟨rfl,rfl⟩
   . exact hI.tm _ _ _ h0
   . exact⟨_,h,by simp only[bu,bt]⟩
theorem G7(hI:Inv K n ds B m0 rb σ g a m L)(t:Tmp):Kn n a [(t,a.eval (.tmp t))] ds.d:=⟨hI.size,hI.defers,Ke.cons rfl (Ke.nil a)⟩
theorem EU{γ:Type}{ops:Array Oper}{o:Oper}{go:Bool->AS S->Option γ}{z:γ}(hI:Inv K n ds B m0 rb σ g a m L)(h:mV ops o.guard σ go=some z):
 ∃run σ',go run σ'=some z/\Inv K n ds B m0 rb σ' g a m L/\Region.wanted o (yielded ops a.tmps)=run:=by
 cases hg:o.guard with
 |none=>rw[hg]at h;exact⟨true,σ,h,hI,by simp[Region.wanted,hg]⟩
 |some jb=>
  obtain⟨j,b⟩:=jb
  rw[hg]at h
  simp only[mV]at h
  split at h
  . rename_i bC v hv
    obtain⟨t,ht,hv⟩:=aa.1 hv
    obtain⟨h1,h2⟩:=hI.slot hv
    simp only[bu]at h2
    have yes:∀c,a.eval (.tmp t)=.bool c->(c == b)=true->Region.wanted o (yielded ops a.tmps)=true:=fun c hc hcb=>
     sD (G7 hI t) (by simp only[mW,hg,ht,lk,beq_self_eq_true,Nat.beq_refl,hc];exact hcb)
    have no:∀c,a.eval (.tmp t)=.bool c->(c !=b)=true->Region.wanted o (yielded ops a.tmps)=false:=fun c hc hcb=>
     gZ (G7 hI t) (by simp only[lM,hg,ht,lk,Nat.beq_refl,hc];exact hcb)
    split at h
    . rename_i c _
      simp only[bt,a6,and_true]at h2
      refine⟨_,σ,h,hI,?_⟩
      cases hcb:c == b with
      |true=>exact yes c h2 hcb
      |false=>exact no c h2 (by simp[bne,hcb])
    . rename_i c p d hcp _
      simp only[bt,a6,and_true]at h2
      split at h
      . rename_i hp
        have hc:=hcp.2 hp
        subst hc
        refine⟨_,_,h,jS hI (by rw[h1,h2]),?_⟩
        cases b with
        |true=>exact yes _ h2 rfl
        |false=>exact no _ h2 rfl
      . rename_i hp
        have hc:c=false:=by cases hc:c with|false=>rfl|true=>exact absurd (hcp.1 hc) hp
        subst hc
        refine⟨_,_,h,jS hI (by rw[h1,h2]),?_⟩
        cases b with
        |true=>exact no _ h2 rfl
        |false=>exact yes _ h2 rfl
    . cases h
  . rename_i bC hv
    obtain⟨t,ht,hv⟩:=aa.1 hv
    obtain⟨h1,h2⟩:=hI.slot hv
    simp only[bu,b6]at h2
    obtain⟨l,h2,rfl⟩:=h2
    refine⟨_,σ,h,hI,gZ (G7 hI t) ?_⟩
    simp only[lM,hg,ht,lk,Nat.beq_refl,h2]
  . cases h
theorem fe{α:Type}:∀{l:List (Nat×α)} {s t:Nat},t≠s->look t (mq s l)=look t l
 |[],s,t,_=>rfl
 |(u,x)::l,s,t,h=>by
  unfold mq;split
  . rename_i e;obtain rfl:=af e;rw[bA,if_neg (Ne.symm h)]
  . rw[bA,bA,fe h]
theorem HN(hI:Inv K n ds B m0 rb σ g a m L){ob':List (Nat×Nat×AO S)}{L':List bB}{g':GG S}{m':Mem}{d:Option Tmp}{mv:Option Nat}{v:AV S}{u:Value}(hd:∀t,d=some t->t<n)(hge:GE g g')(hle:Le m m')
 (hob:dg K g' m' ob' L') (hst:St B m0 m' (L'++ds.X)) (hv:bu K g' m' v u) (hvid:g'.vv (mv.getD σ.ct)=some u) (hf:∀i,σ.ct+64<=i->g'.bk i=none/\g'.vv i=none/\g'.oo i=none):
 Inv K n ds B m0 rb {σ.put d mv v with ob:=ob',ct:=σ.ct+64} g' (a.put d u) m' L':=by
 have old:∀s bC x,look s σ.tm=some (bC,x)->∃y,g'.vv bC=some y/\bu K g' m' x y:=fun s bC x hs=>by
  obtain⟨y,h1,h2⟩:=hI.tm _ _ _ hs;exact⟨y,hge.vv _ _ h1,h2.mono hge hle⟩
 have hrt:K.B m0/\∀(j q:Nat),σ.rt[j]?=some q->∃h,rb j=some h/\g'.bk q=some h:=⟨hI.rt.1,fun j q hj=>by
  obtain⟨h,h1,h2⟩:=hI.rt.2 j q hj;exact⟨h,h1,hge.bk _ _ h2⟩⟩
 cases d with
 |none=>exact⟨hI.size,hI.defers,fun t bC x hs=>hge.vv _ _ (hI.at_ t bC x hs),old,hob,hst,hf,hrt⟩
 |some d=>
  have hdn:=hd d rfl
  refine⟨by simp[Act.put,hI.size],hI.defers,fun t bC x hs=>?_,fun s bC x hs=>?_,hob,hst,hf,hrt⟩
  . have hs':look (σ.fb+t) ((σ.fb+d,mv.getD σ.ct,v)::mq (σ.fb+d) σ.tm)=some (bC,x):=hs
    rw[bA]at hs'
    by_cases e:σ.fb+d=σ.fb+t
    . rw[if_pos e]at hs'
      cases hs'
      have e:d=t:=Nat.add_left_cancel e
      subst e
      rw[D.eK (by rw[hI.size];exact hdn)]
      exact hvid
    . rw[if_neg e,fe (Ne.symm e)]at hs'
      rw[Act.eval_put (fun d' hd' e'=>by cases hd';cases e';exact e rfl)]
      exact hge.vv _ _ (hI.at_ _ _ _ hs')
  . have hs':look s ((σ.fb+d,mv.getD σ.ct,v)::mq (σ.fb+d) σ.tm)=some (bC,x):=hs
    rw[bA]at hs'
    by_cases e:σ.fb+d=s
    . rw[if_pos e]at hs'
      cases hs'
      exact⟨u,hvid,hv⟩
    . rw[if_neg e,fe (Ne.symm e)]at hs'
      exact old _ _ _ hs'
end
abbrev ZL(S:Nat->Type):=List ((Nat×Nat×AO S)×bB)
def zR(K:db tb)(g:GG S)(m:Mem)(p:(Nat×Nat×AO S)×bB):Prop:=g.oo p.1.2.1=some (p.1.2.2,p.2)/\eO K g m p.1.1 p.1.2.2 p.2
theorem jO:∀{ob:List (Nat×Nat×AO S)} {L:List bB},dg K g m ob L->∃z:ZL S,z.map Prod.fst=ob/\z.map Prod.snd=L/\∀p∈z,zR K g m p
 |[],L,h=>⟨[],rfl,h.symm,fun p hp=>by cases hp⟩
 |x::ob,L,h=>by
  obtain⟨e,L',rfl,h1,h2,h3⟩:=h;obtain⟨z,rfl,rfl,k⟩:=jO h3;exact⟨(x,e)::z,rfl,rfl,fun p hp=>by
   rcases aA.1 hp with rfl|hp
   . exact⟨h1,h2⟩
   . exact k p hp⟩
theorem iG:∀{z:ZL S},(∀p∈z,zR K g m p)->dg K g m (z.map Prod.fst) (z.map Prod.snd)
 |[],_=>rfl
 |p::z,h=>⟨p.2,_,rfl,(h p aq).1,(h p aq).2,iG fun q hq=>h q (au _ hq)⟩
def jN(z:ZL S)(q:Nat):Option ((Nat×Nat×AO S)×bB):=z.find? fun p=>Nat.beq p.1.1 q
def cM(z:ZL S)(l:List Nat):ZL S:=l.filterMap (jN z)
theorem iM{q:Nat}:∀{z:ZL S},look q (z.map Prod.fst)=(jN z q).map (·.1.2)
 |[]=>rfl
 |((u,x),e)::z=>by
  simp only[aD,bA,jN,List.find?_cons];by_cases h:u=q
  . subst h;simp
  . rw[if_neg h,hC h];exact iM
theorem dL{q:Nat}{z:ZL S}{p:(Nat×Nat×AO S)×bB}(h:jN z q=some p):p∈z/\p.1.1=q:=
 ⟨List.mem_of_find?_eq_some h,af (by have:=List.find?_some (p:=fun p:(Nat×Nat×AO S)×bB=>Nat.beq p.1.1 q) h;exact this)⟩
theorem gK{z:ZL S}:∀{l:List Nat},(cM z l).map Prod.fst=pick (z.map Prod.fst) l
 |[]=>rfl
 |q::l=>by
  simp only[cM,List.filterMap_cons,pick,iM]
  cases h:jN z q with
  |none=>exact gK
  |some p=>
   obtain⟨_,rfl⟩:=dL h
   simp only[aD,ak]
   rw[<- gK];rfl
theorem qH{f:Nat->Bool}{q:Nat}(hq:f q=true):∀{z:ZL S},jN (z.filter fun p=>f p.1.1) q=jN z q
 |[]=>rfl
 |p::z=>by
  by_cases h:p.1.1=q
  . rw[List.filter_cons_of_pos (by rw[h];exact hq)];simp[jN,h]
  . have hb:Nat.beq p.1.1 q=false:=hC h;have ih:=qH hq (z:=z)
    cases hf:f p.1.1 with
    |true=>rw[List.filter_cons_of_pos (p:=fun p:(Nat×Nat×AO S)×bB=>f p.1.1) hf];simp only[jN,List.find?_cons,hb];exact ih
    |false=>rw[List.filter_cons_of_neg (p:=fun p:(Nat×Nat×AO S)×bB=>f p.1.1) (by simp[hf])];simp only[jN,List.find?_cons,hb]at ih ⊢; exact ih
theorem iy{f:Nat->Bool}{z:ZL S}:∀{l:List Nat},(∀q∈l,f q=true)->cM (z.filter fun p=>f p.1.1) l=cM z l
 |[],_=>rfl
 |q::l,h=>by
  have ih:=iy (z:=z) fun q hq=>h q (au _ hq)
  simp only[cM,List.filterMap_cons,qH (h q aq)]at ih ⊢;rw[ih]
theorem gL:∀{l:List Nat} {z:ZL S},l.Nodup->∃Y,List.Perm z (cM z l++Y)
 |[],z,_=>⟨z,List.Perm.refl _⟩
 |q::l,z,h=>by
  obtain⟨hq,hl⟩:=List.nodup_cons.1 h;have hf:∀r∈l,(!Nat.beq r q)=true:=fun r hr=>by
   rw[hC fun e=>hq (by rw[<- e];exact hr)];rfl
  obtain⟨Y,hY⟩:=gL (z:=z.filter fun p=>!Nat.beq p.1.1 q) hl;rw[iy hf]at hY;have hz:List.Perm z (z.filter (fun p=>Nat.beq p.1.1 q)++z.filter fun p=>!Nat.beq p.1.1 q):=(List.filter_append_perm _ _).symm;simp only[cM,List.filterMap_cons]at hY ⊢
  cases hk:jN z q with
  |none=>exact⟨z.filter (fun p=>Nat.beq p.1.1 q)++Y,hz.trans ((aV _ hY).trans (by
   rw[<- az,<- az];exact List.Perm.append_right _ aH))⟩
  |some p=>
   obtain⟨h1,h2⟩:=dL hk
   have hm:p∈z.filter fun p=>Nat.beq p.1.1 q:=bc.2 ⟨h1,by rw[h2];exact Nat.beq_refl q⟩
   obtain⟨A,B,hAB⟩:=List.append_of_mem hm
   rw[hAB]at hz
   refine⟨A++B++Y,hz.trans (((List.perm_middle (l₁:=A) (l₂:=B) (a:=p)).append hY).trans ?_)⟩
   simp only[aR]
   refine List.Perm.cons p ?_
   rw[<- az,<- az]
   exact List.Perm.append_right _ aH
theorem mR{rm:List Nat}:∀{ob:List (Nat×Nat×AO S)},cp rm ob=ob.filter fun x=>!has x.1 rm
 |[]=>rfl
 |(q,x)::l=>by
  unfold cp;split
  . rename_i h;rw[List.filter_cons_of_neg (by simp[h])];exact mR
  . rename_i h;rw[List.filter_cons_of_pos (by simp[h]),mR]
theorem qO{ob:List (Nat×Nat×AO S)}{L:List bB}{rd rm:List Nat}(h:dg K g m ob L)(hn:(rd++rm).Nodup):∃Lr Lm Lz R Y,dg K g m (pick ob rd) Lr/\dg K g m (pick ob rm) Lm/\dg K g m (cp rm ob) Lz/\List.Perm L ((Lr++Lm)++R)/\List.Perm (Lr++R) (Lz++Y):=by
 obtain⟨z,rfl,rfl,hz⟩:=jO h;obtain⟨n1,n2,n3⟩:=List.nodup_append.1 hn;have hp:List.Perm z (z.filter (fun p=>has p.1.1 rm)++z.filter fun p=>!has p.1.1 rm):=(List.filter_append_perm _ _).symm;obtain⟨Y1,hY1⟩:=gL (z:=z.filter fun p=>has p.1.1 rm) n2;obtain⟨Y2,hY2⟩:=gL (z:=z.filter fun p=>!has p.1.1 rm) n1;rw[iy (f:=fun q=>has q rm) fun q hq=>fp.2 hq]at hY1;rw[iy (f:=fun q=>!has q rm) fun q hq=>by
  cases hh:has q rm with
  |false=>rfl
  |true=>exact absurd rfl (n3 q hq q (fp.1 hh))]at hY2
 have mem:∀l,∀p∈cM z l,zR K g m p:=fun l p hp=>by
  obtain⟨q,_,hq⟩:=List.mem_filterMap.1 hp;exact hz p (dL hq).1
 refine⟨(cM z rd).map Prod.snd,(cM z rm).map Prod.snd,(z.filter fun p=>!has p.1.1 rm).map Prod.snd,(Y1++Y2).map Prod.snd,Y1.map Prod.snd,?_,?_,?_,?_,?_⟩
 . rw[<- gK];exact iG (mem rd)
 . rw[<- gK];exact iG (mem rm)
 . have:cp rm (z.map Prod.fst)=(z.filter fun p=>!has p.1.1 rm).map Prod.fst:=by
    rw[mR,List.filter_map];rfl
   rw[this];exact iG fun p hp=>hz p (bc.1 hp).1
 . rw[<- bl,<- bl];refine List.Perm.map _ (hp.trans ((hY1.append hY2).trans ?_));have e1:List.Perm (cM z rm++Y1++(cM z rd++Y2)) (cM z rm++cM z rd++(Y1++Y2)):=by
    rw[az,az];refine aV _ ?_;rw[<- az,<- az];exact List.Perm.append_right _ aH
   exact e1.trans (List.Perm.append_right _ aH)
 . rw[<- bl,<- bl];refine List.Perm.map _ ?_;refine List.Perm.trans ?_ (List.Perm.append_right Y1 hY2.symm);rw[az];exact aV _ aH
theorem k9:∀{ob ob':List (Nat×Nat×AO S)} {L L':List bB},dg K g m ob L->dg K g m ob' L'->dg K g m (ob++ob') (L++L')
 |[],ob',L,L',h,h'=>by simp only[dg]at h;subst h;exact h'
 |x::ob,ob',L,L',h,h'=>by
  obtain⟨e,L1,rfl,h1,h2,h3⟩:=h;exact⟨e,L1++L',rfl,h1,h2,k9 h3 h'⟩
theorem xo:∀{l:List (Nat×AO S)} {La:List bB} {v:Nat},tL K g m l La->(∀i a e,l[i]?=some a->La[i]?=some e->g.oo (v+i)=some (a.2,e))->dg K g m (oJ v l) La
 |[],La,v,h,_=>h
 |(q,a)::l,La,v,h,ho=>by
  obtain⟨e,L',rfl,h1,h2⟩:=h;exact⟨e,L',rfl,ho 0 (q,a) e rfl rfl,h1,xo h2 fun i b f hb hf=>by
   have:=ho (i+1) b f (by simpa using hb) (by simpa using hf);rw[<- this];congr 1;omega⟩
theorem tM:∀{l:List (Nat×AO S)} {La:List bB},tL K g m l La->La.length=l.length
 |[],La,h=>by simp only[tL]at h;subst h;rfl
 |_::l,La,h=>by
  obtain⟨e,L',rfl,h1,h2⟩:=h;simp[tM h2]
section
variable {n:Nat}{ds:Cx}{B:List Nat}{m0:Mem}{rb:Nat->Option Gh}{σ:AS S}{a:Act}{L:List bB}
def GG.fX(g:GG S)(g':GG S)(ct:Nat)(mv:Option Nat)(v:Value)(add:List (Nat×AO S))(La:List bB):GG S:=
 {bk:=g'.bk,vv:=fun i=>if i=ct/\mv=none then some v else g.vv i,
  oo:=fun i=>if ct+32<=i then(match add[i-(ct+32)]?,La[i-(ct+32)]? with|some a,some e=>some (a.2,e)|_,_=>g.oo i)else g.oo i}
theorem Im{L Lr Lm La Lz R Y X:List bB}{m m':Mem}(h:St B m0 m (L++X))(p1:List.Perm L ((Lr++Lm)++R))(p2:List.Perm (Lr++R) (Lz++Y))(hS:St (bq (Lr++Lm)) m m' (Lr++La)):St B m0 m' ((La++Lz)++X):=by
 have h0:St B m0 m ((Lr++Lm)++(R++X)):=h.perm ((List.Perm.append_right X p1).trans (by rw[az]));have h1:St B m0 m' ((Lr++La)++(R++X)):=St.frame h0 hS;have h2:List.Perm ((Lr++La)++(R++X)) (((La++Lz)++X)++Y):=by
  have e1:List.Perm ((Lr++La)++(R++X)) (La++((Lr++R)++X)):=by
   refine(List.Perm.append_right _ aH).trans ?_;rw[az,az]
  refine e1.trans ?_;refine(aV La (List.Perm.append_right X p2)).trans ?_;rw[az,az,az];exact aV _ (aV _ aH)
 exact(h1.perm h2).kG
theorem yU(hI:Inv K n ds B m0 rb σ g a m L){d:Option Tmp}{mv:Option Nat}{r:ek S}{v:Value}{w':World}{Lr Lm Lz R Y:List bB}(hd:∀t,d=some t->t<n)(vY:r.add.length<=31)
 (hz:dg K g m (cp r.rm σ.ob) Lz) (p1:List.Perm L ((Lr++Lm)++R)) (p2:List.Perm (Lr++R) (Lz++Y)) (hD:sI K g m σ.ct Lr Lm r v w') (hmv:∀bC,mv=some bC->g.vv bC=some v):
 ∃g' m' L',m'.w=w'/\GE g g'/\Le m m'/\Inv K n ds B m0 rb (σ.fX d mv r) g' (a.put d v) m' L':=by
 obtain⟨m',g',La,rfl,hS,hge,hvv,hoo,hbk,hA,hv⟩:=hD
 have hle:=hS.le
 have hfr:=hI.fresh
 have hlA:=tM hA
 have ge1:GE g' (g.fX g' σ.ct mv v r.add La):=⟨fun _ _ h=>h,fun i x hx=>by
  rw[hvv]at hx;show(if _ then _ else _)=_;rw[if_neg fun⟨e,_⟩=>by subst e;rw[(hfr _ (Nat.le_refl _)).2.1]at hx;cases hx];exact hx,fun i x hx=>by
  rw[hoo]at hx;have:i<σ.ct:=Nat.lt_of_not_le fun h=>by rw[(hfr i h).2.2]at hx;cases hx
  show(if _ then _ else _)=_;rw[if_neg (by omega)];exact hx⟩
 have ge2:GE g (g.fX g' σ.ct mv v r.add La):=hge.trans ge1
 refine⟨g.fX g' σ.ct mv v r.add La,m',La++Lz,rfl,ge2,hle,?_⟩
 refine HN hI (ob':=oJ (σ.ct+32) r.add++cp r.rm σ.ob) hd ge2 hle (k9 (xo (hA.mono ge1 (Le.refl _)) fun i x e hx he=>?_) (hz.mono ge2 hle)) ?_ (hv.mono ge1 (Le.refl _)) ?_ fun i hi=>⟨?_,?_,?_⟩
 . show(if _ then _ else _)=_
   rw[if_pos (by omega),show σ.ct+32+i-(σ.ct+32)=i by omega,hx,he]
 . exact Im hI.st p1 p2 hS
 . cases mv with
   |none=>show(if _ then _ else _)=_;rw[if_pos ⟨rfl,rfl⟩]
   |some bC=>exact ge2.vv _ _ (hmv bC rfl)
 . show g'.bk i=none
   refine ba fun hn=>?_
   have h1:=(hfr i (by omega)).1
   have:=hbk i (by rw[h1];exact hn)
   omega
 . show(if _ then _ else _)=_
   rw[if_neg (by omega)];exact(hfr i (by omega)).2.1
 . show(if _ then _ else _)=_
   rw[if_pos (by omega),List.getElem?_eq_none (by omega)]
   exact(hfr i (by omega)).2.2
theorem KJ(hI:Inv K n ds B m0 rb σ g a m L){d:Option Tmp}(hd:∀t,d=some t->t<n):
 ∃g',GE g g'/\Inv K n ds B m0 rb {σ.put d none (AV.dU S)with ct:=σ.ct+64} g' (a.put d undef) m L:=by
 have ge2:GE g {g with vv:=fun i=>if i=σ.ct then some undef else g.vv i}:=⟨fun _ _ h=>h,fun i x hx=>by
  show(if _ then _ else _)=_;rw[if_neg fun e=>by subst e;rw[(hI.fresh _ (by omega)).2.1]at hx;cases hx];exact hx,fun _ _ h=>h⟩
 have hob:(σ.put d none (AV.dU S)).ob=σ.ob:=by cases d<;>rfl
 refine⟨_,ge2,?_⟩
 have:=HN hI (ob':=σ.ob) (mv:=none) (v:=AV.dU S) (u:=undef) hd ge2 (Le.refl m) (hI.ob.mono ge2 (Le.refl m)) hI.st (by simp only[AV.dU,bu,b6];exact⟨[],rfl,rfl⟩) (if_pos rfl) fun i hi=>⟨(hI.fresh i (by omega)).1,by show(if _ then _ else _)=_;rw[if_neg (by omega)];exact(hI.fresh i (by omega)).2.1,(hI.fresh i (by omega)).2.2⟩
 rw[<- hob]at this
 exact this
theorem bp.exact{o:Oper}{w:World}{bF:Value->World->Prop}{u:Value}(h:bp P o a w bF)(hr:(execOp a.eval o).run P w=.ok (.value u) w):bF u w:=by
 unfold bp at h;rw[hr]at h;exact h
theorem Hg{o:Oper}{bC:Nat}{w:World}(hI:Inv K n ds B m0 rb σ g a m L)(hm:hU σ o.op=some bC):∃u,(execOp a.eval o).run P w=.ok (.value u) w/\g.vv bC=some u:=by
 unfold hU at hm;split at hm
 . rename_i t ho;obtain⟨⟨vid',v⟩,hs,rfl⟩:=ab.1 hm;exact⟨a.eval (.tmp t),by simp[execOp,ho],(hI.slot hs).1⟩
 . rename_i t ho;obtain⟨⟨vid',v⟩,hs,rfl⟩:=ab.1 hm;exact⟨a.eval (.tmp t),by simp[execOp,ho],(hI.slot hs).1⟩
 . cases hm
theorem KO(hI:Inv K n ds B m0 rb σ g a m L){o:Oper}{xs:List (AV S)}{r:ek S}(hd:∀t,o.dst=some t->t<n)(hx:jx K g m a o.op.operands.toList xs)(hn:dN (r.rd++r.rm)=true)(hO:oH P K o xs σ.ob σ.ct r):
 bp P o a m.w fun v w'=>∃g' m' L',m'.w=w'/\GE g g'/\Le m m'/\Inv K n ds B m0 rb (σ.fX o.dst (hU σ o.op) r) g' (a.put o.dst v) m' L':=by
 obtain⟨Lr,Lm,Lz,R,Y,h1,h2,h3,p1,p2⟩:=qO hI.ob (eJ hn)
 have hOw:Ow m (Lr++Lm):=(hI.st.ow.left.perm p1).left
 have key:=hO.did g a m Lr Lm (fun i hi _=>hI.fresh i hi) (K.Bm hI.rt.1 hI.st.le) hx h1 h2 hOw
 cases hm:hU σ o.op with
 |none=>exact key.mono fun v w' hD=>yU hI hd hO.vY h3 p1 p2 hD (fun _ h=>by cases h)
 |some bC=>
  obtain⟨u,hr,hu⟩:=Hg (P:=P) (w:=m.w) hI hm
  have hD:=E.bp.exact key hr
  unfold bp
  rw[hr]
  exact yU hI hd hO.vY h3 p1 p2 hD (fun _ h=>by cases h;exact hu)
def zF(n:Nat)(o:Oper):Bool:=match o.dst with|some d=>Nat.ble (d+1) n|none=>true
theorem qg{o:Oper}(h:zF n o=true):∀t,o.dst=some t->t<n:=fun t ht=>by
 unfold zF at h;rw[ht]at h;exact aj h
theorem J7{fa:FA S}(hΨ:∀c∈fa.nd,kZ P K c){sq:Bool}{o:Oper}{xs:List (AV S)}{fx:FuncId×List (AV S)}{ob:List (Nat×Nat×AO S)}{ct:Nat}{γ:Type}{k:ek S->Option γ}{z:γ}(h:J6 fa sq o xs=some fx)(hk:gJ tb fx.1 fx.2 ob ct k fa.nd=some z):
 ∃rd rm:List Nat,(rd++rm).Nodup/\∀(g:GG S) (a:Act) (m:Mem) (Lr Lm:List bB),eA g ct->K.B m->jx K g m a o.op.operands.toList xs->dg K g m (pick ob rd) Lr->dg K g m (pick ob rm) Lm->Ow m (Lr++Lm)->
  bp P o a m.w fun v w'=>∃res,k res=some z/\res.rd=rd/\res.rm=rm/\res.add.length<=31/\sI K g m ct Lr Lm res v w':=by
 unfold J6 at h
 split at h
 case h_2=>cases h
 case h_1=>
 unfold OW at h
 split at h
 case h_2=>cases h
 case h_1 c ho=>
 obtain⟨cal,ops,ts⟩:=c
 split at h
 case h_2=>cases h
 case h_1 y f first caps args hcal=>
 simp only at hcal
 subst hcal
 split at h
 case h_2=>cases h
 case h_1 hb=>
 cases h
 simp only[al]at hb
 have hf:=aj hb.2
 have hox:o.op.operands.toList=y::ops.toList:=by rw[ho];simp[Op.operands,Call.operands]
 obtain⟨rd,rm,hnd,h4⟩:=oe hΨ hk
 refine⟨rd,rm,hnd,fun g a m Lr Lm hF hB ha hR hM hO=>?_⟩
 rw[hox]at ha
 obtain⟨v,vs,e,a1,a2⟩:=ha
 cases e
 simp only[bu,bt]at a1
 obtain⟨v1,v2,e1,a3,a4⟩:=a1
 have key:=h4 g m _ Lr Lm hF hB (gS (gS (iH a3) (nN a2)) (iH a4)) hR hM hO
 unfold mG at key
 rw[if_pos hf]at key
 obtain⟨h3,key⟩:=key
 have hrun:(execOp a.eval o).run P m.w=.ok (.enter f (v1++ops.toList.map a.eval++v2).toArray) m.w:=by
  unfold execOp;have e2:a.eval y=.func (.func f) v1.toArray v2.toArray:=by simpa using e1
  simp only[ho,resolve,e2,Deferred.ofValue,Sem.run_bind,Sem.run_pure,Result.andThen_ok,invoke];rw[h3];congr 2;apply Array.ext';simp
 unfold bp
 rw[hrun]
 exact Calls.mono key fun e w' ⟨v,res,hv,hr⟩=>⟨v,hv,res,hr⟩
theorem qj(hT:cu P K tt){Φ:List (jr S)}(hΦ:∀c∈Φ,Sound P K c){fa:FA S}(hΨ:∀c∈fa.nd,kZ P K c){sq:Bool}{ops:Array Oper}{γ:Type}{z:γ}{Q:Exit->Act->World->Prop}{rr:Option Nat}:∀{rest:List Oper} {i:Nat} {σ:AS S} {lg:Log} {k:AS S->Log->Option γ} {g:GG S} {a:Act} {m:Mem} {L:List bB},
 jI tb tt Φ fa sq ops rest i σ lg k=some z->rest.all (zF n)=true->Inv K n ds B m0 rb σ g a m L->
 (∀σ' lg' g' a' m' L',k σ' lg'=some z->GE g g'->Le m m'->Inv K n ds B m0 rb σ' g' a' m' L'->Q .normal a' m'.w)->wpListIn (FW rr) 0 P ops Q rest a m.w
 |[],i,σ,lg,k,g,a,m,L,h,_,hI,hQ=>by
  simp only[jI]at h;exact hQ σ lg g a m L h (GE.refl g) (Le.refl m) hI
 |o::rest,i,σ,lg,k,g,a,m,L,h,hd,hI,hQ=>by
  simp only[List.all_cons,al]at hd;simp only[jI]at h;obtain⟨run,σ1,h1,hI1,hw⟩:=EU hI h;unfold wpListIn
  cases run with
  |false=>
   simp only at h1
   rw[if_neg (by rw[hw];simp)]
   obtain⟨g',hge,hI2⟩:=KJ hI1 (qg hd.1)
   exact⟨fun _ _=>trivial,qj hT hΦ hΨ h1 hd.2 hI2 fun σ' lg' g2 a' m' L' hk h3 h4 h5=>hQ σ' lg' g2 a' m' L' hk (hge.trans h3) h4 h5⟩
  |true=>
   simp only at h1
   rw[if_pos hw]
   split at h1
   . rename_i xs hxs
     obtain⟨hx,hl⟩:=yz hT hI1 hxs
     split at h1
     . rename_i hnd
       rw[p9]at h1
       obtain⟨r,hr,h2⟩:=aa.1 h1
       obtain⟨r',hr',hO⟩:=Dc hT hΦ hl hr
       cases hr'
       split at h2
       . rename_i hn
         refine(KO hI1 (qg hd.1) hx hn hO).wp fun v w' ⟨g',m',L',e,h3,h4,h5⟩=>?_
         subst e
         exact qj hT hΦ hΨ h2 hd.2 h5 fun σ' lg' g2 a' m2 L2 hk h6 h7 h8=>hQ σ' lg' g2 a' m2 L2 hk (h3.trans h6) (h4.trans h7) h8
       . cases h2
     . rename_i fx hnd
       obtain⟨rd,rm,hn,hstep⟩:=J7 hΨ hnd h1
       obtain⟨Lr,Lm,Lz,R,Y,q1,q2,q3,p1,p2⟩:=qO hI1.ob hn
       have hOw:Ow m (Lr++Lm):=(hI1.st.ow.left.perm p1).left
       refine(hstep g a m Lr Lm (fun i hi _=>hI1.fresh i hi) (K.Bm hI1.rt.1 hI1.st.le) hx q1 q2 hOw).wp fun v w' ⟨res,hk2,e1,e2,hfew,hD⟩=>?_
       subst e1;subst e2
       obtain⟨g',m',L',e,h3,h4,h5⟩:=yU hI1 (mv:=none) (qg hd.1) hfew q3 p1 p2 hD (fun _ h=>by cases h)
       subst e
       exact qj hT hΦ hΨ hk2 hd.2 h5 fun σ' lg' g2 a' m2 L2 hk h6 h7 h8=>hQ σ' lg' g2 a' m2 L2 hk (h3.trans h6) (h4.trans h7) h8
   . cases h1
end
end E
end
section
open Go.RowKit G
namespace E
variable {S:Nat->Type}{tb:Tb S}{K:db tb}{g:GG S}{m:Mem}
section
variable {n:Nat}{ds:Cx}{B:List Nat}{m0:Mem}{rb:Nat->Option Gh}{σ σ1:AS S}{a:Act}{L:List bB}
theorem lx{q:Nat}{ver:Nat}{ao:AO S}{X:List bB}(hob:dg K g m σ.ob L)(hl:look q σ.ob=some (ver,ao)):∃e L0 R,eO K g m q ao e/\List.Perm L (e::(L0++R))/\dg K g m (cp [q] σ.ob) L0:=by
 obtain⟨z,hz1,hz2,hz3⟩:=jO hob;rw[<- hz1,iM]at hl;obtain⟨p,hp1,hp2⟩:=ab.1 hl;obtain⟨hp3,hp4⟩:=dL hp1;have hp5:=(hz3 p hp3).2;rw[hp2,hp4]at hp5;have hperm:List.Perm z (z.filter (fun p=>has p.1.1 [q])++z.filter fun p=>!has p.1.1 [q]):=(List.filter_append_perm _ _).symm;have hm:p∈z.filter fun p=>has p.1.1 [q]:=bc.2 ⟨hp3,by rw[hp4];exact fp.2 (by simp)⟩
 obtain⟨A,C,hAC⟩:=List.append_of_mem hm;rw[hAC]at hperm;refine⟨p.2,(z.filter fun p=>!has p.1.1 [q]).map Prod.snd,(A++C).map Prod.snd,hp5,?_,?_⟩
 . rw[<- hz2,<- bl,<- aD (f:=Prod.snd)];refine List.Perm.map _ (hperm.trans ?_);refine((List.perm_middle (l₁:=A) (l₂:=C) (a:=p)).append_right _).trans ?_;exact List.Perm.cons p aH
 . have:cp [q] (z.map Prod.fst)=(z.filter fun p=>!has p.1.1 [q]).map Prod.fst:=by
    rw[mR,List.filter_map];rfl
   rw[<- hz1,this];exact iG fun p hp=>hz3 p (bc.1 hp).1
theorem vz(hI:Inv K n ds B m0 rb σ g a m L)(x:Gh):∃g1,GE g g1/\g1.bk (σ.ct+1)=some x/\Inv K n ds B m0 rb {σ with ct:=σ.ct+64} g1 a m L:=by
 let g1:GG S:={bk:=fun i=>if i=σ.ct+1 then some x else g.bk i,vv:=g.vv,oo:=g.oo};have ge:GE g g1:=⟨fun i y hy=>by
  show(if i=σ.ct+1 then some x else g.bk i)=_;rw[if_neg fun e=>by rw[e,(hI.fresh _ (by omega)).1]at hy;cases hy];exact hy,fun _ _ h=>h,fun _ _ h=>h⟩
 refine⟨g1,ge,if_pos rfl,hI.size,hI.defers,hI.at_,fun s bC v h=>(let⟨u,k1,k2⟩:=hI.tm s bC v h;⟨u,k1,k2.mono ge (Le.refl m)⟩),hI.ob.mono ge (Le.refl m),hI.st,fun i hi=>⟨?_,(hI.fresh i (by simp only at hi;omega)).2.1,(hI.fresh i (by simp only at hi;omega)).2.2⟩,⟨hI.rt.1,fun j q hj=>?_⟩⟩
 . simp only at hi;show(if i=σ.ct+1 then some x else g.bk i)=_;rw[if_neg (by omega)];exact(hI.fresh i (by omega)).1
 . obtain⟨h,k1,k2⟩:=hI.rt.2 j q hj;exact⟨h,k1,ge.bk _ _ k2⟩
theorem mH(hI:Inv K n ds B m0 rb σ g a m L){q:Nat}{ao:AO S}{e:bB}(ho:eO K g m q ao e)(hst:St B m0 m ((e::L)++ds.X)):∃g1,GE g g1/\Inv K n ds B m0 rb (zi σ q ao) g1 a m (e::L):=by
 let g1:GG S:={g with oo:=fun i=>if i=σ.ct+32 then some (ao,e)else g.oo i};have ge:GE g g1:=⟨fun _ _ h=>h,fun _ _ h=>h,fun i y hy=>by
  show(if i=σ.ct+32 then some (ao,e)else g.oo i)=_;rw[if_neg fun e'=>by rw[e',(hI.fresh _ (by omega)).2.2]at hy;cases hy];exact hy⟩
 refine⟨g1,ge,hI.size,hI.defers,hI.at_,fun s bC v h=>(let⟨u,k1,k2⟩:=hI.tm s bC v h;⟨u,k1,k2.mono ge (Le.refl m)⟩),⟨e,L,rfl,if_pos rfl,ho.mono ge (Le.refl m),hI.ob.mono ge (Le.refl m)⟩,hst,fun i hi=>⟨?_,?_,?_⟩,hI.rt⟩
 . have hi:σ.ct+64<=i:=hi;exact(hI.fresh i (by omega)).1
 . have hi:σ.ct+64<=i:=hi;exact(hI.fresh i (by omega)).2.1
 . have hi:σ.ct+64<=i:=hi;show(if i=σ.ct+32 then some (ao,e)else g.oo i)=_;rw[if_neg (by omega)];exact(hI.fresh i (by omega)).2.2
theorem A3(hI:Inv K n ds B m0 rb σ g a m L){t bC:Nat}{v0 v:AV S}(hs:look t σ.tm=some (bC,v0))(hv:∀u,bu K g m v0 u->bu K g m v u):Inv K n ds B m0 rb {σ with tm:=(t,bC,v)::mq t σ.tm,ct:=σ.ct+64} g a m L:=by
 refine⟨hI.size,hI.defers,fun t' vid' v' hl=>?_,fun s vid' v' hl=>?_,hI.ob,hI.st,fun i hi=>hI.fresh i (by simp only at hi;omega),hI.rt⟩
 . simp only[bA]at hl;by_cases e':t=σ.fb+t'
   . rw[if_pos e']at hl;cases hl;exact hI.at_ t' bC v0 (by rw[<- e'];exact hs)
   . rw[if_neg e',fe (Ne.symm e')]at hl;exact hI.at_ _ _ _ hl
 . simp only[bA]at hl;by_cases e':t=s
   . rw[if_pos e']at hl;cases hl;obtain⟨u,k1,k2⟩:=hI.tm _ _ _ hs;exact⟨u,k1,hv u k2⟩
   . rw[if_neg e',fe (Ne.symm e')]at hl;exact hI.tm _ _ _ hl
theorem xI{w w':CV S}(hv:∀cs,bt K g m w cs->bt K g m w' cs):∀{vs:List (CV S)} {i:Nat} {us:List Value},vs[i]?=some w->bT K g m vs us->bT K g m (vs.set i w') us
 |[],i,us,h,_=>by simp at h
 |v::vs,0,us,h,⟨c1,c2,e,h1,h2⟩=>by
  simp at h;subst h;exact⟨c1,c2,e,hv _ h1,h2⟩
 |v::vs,i+1,us,h,⟨c1,c2,e,h1,h2⟩=>⟨c1,c2,e,h1,xI hv (by simpa using h) h2⟩
theorem nF{t i:Nat}{w w':CV S}(hI:Inv K n ds B m0 rb σ g a m L)(hp:place σ t i=some w)(hv:∀cs,bt K g m w cs->bt K g m w' cs):∃g1 L1,GE g g1/\Inv K n ds B m0 rb (nD σ t i w') g1 a m L1:=by
 unfold place at hp;unfold nD;split at hp
 . rename_i bC v hs
   cases i with
   |zero=>
    simp only[ae]at hp
    subst hp
    exact⟨g,L,GE.refl g,A3 hI hs fun u h=>by simp only[bu]at h ⊢; exact hv _ h⟩
   |succ i=>
    simp only at hp ⊢
    split at hp
    case h_2=>cases hp
    case h_1 o off=>
    split at hp
    case h_2=>cases hp
    case h_1 ver T cs hlk=>
    obtain⟨e,L0,Rst,ho,hperm,hob⟩:=lx (X:=[]) hI.ob hlk
    obtain⟨gh,b,us,h1,h2,rfl,h4⟩:=ho
    have hI2:Inv K n ds B m0 rb {σ with ob:=cp [o] σ.ob} g a m L0:=⟨hI.size,hI.defers,hI.at_,hI.tm,hob,by
     have:=hI.st.perm (hperm.append_right _);have h5:List.Perm ((.box b us.toArray T::(L0++Rst))++ds.X) ((L0++ds.X)++(.box b us.toArray T::Rst)):=by
      show List.Perm (.box b us.toArray T::((L0++Rst)++ds.X)) _;refine(List.Perm.cons _ ?_).trans (List.perm_middle (l₁:=L0++ds.X) (l₂:=Rst) (a:=bB.box b us.toArray T)).symm;rw[az,az];exact aV L0 aH
     exact(this.perm h5).kG,hI.fresh,hI.rt⟩
    obtain⟨g1,k1,k2⟩:=mH hI2 (q:=o) (ao:=.box T (cs.set i w')) (e:=.box b us.toArray T) ⟨gh,b,us,h1,h2,rfl,xI hv hp h4⟩ (by
     have:=hI.st.perm (hperm.append_right _);have h5:List.Perm ((.box b us.toArray T::(L0++Rst))++ds.X) (((.box b us.toArray T::L0)++ds.X)++Rst):=by
      simp only[aR,az];exact List.Perm.cons _ (aV L0 aH)
     exact(this.perm h5).kG)
    exact⟨g1,_,k1,k2⟩
 . rename_i bC vs hs
   cases i with
   |zero=>cases hp
   |succ i=>
    simp only at hp ⊢
    exact⟨g,L,GE.refl g,A3 hI hs fun u h=>by
     simp only[bu]at h ⊢;obtain⟨cs,e,h1⟩:=h;exact⟨cs,e,xI hv hp h1⟩⟩
 . cases hp
theorem HG{t i:Nat}{k:Mb}(hI:Inv K n ds B m0 rb σ g a m L)(h:HF σ t i k=some σ1):∃g1 m1 L1,m1.w=m.w/\Le m m1/\GE g g1/\Inv K n ds B m0 rb σ1 g1 a m1 L1:=by
 unfold HF at h;split at h
 . rename_i e c hp;cases h;obtain⟨g1,k1,k2,k3⟩:=vz hI ⟨none,none,0,0,default⟩;obtain⟨g2,L2,k4,k5⟩:=nF (w':= .rw (σ.ct+1) c []) k3 hp fun cs hc=>by
    simp only[bt]at hc ⊢;exact⟨_,[],none,k2,by rw[hc];rfl,cz.nil _ _,cz.nil _ _,rfl,fun h=>absurd h (by simp)⟩
   obtain⟨g3,k6,k7⟩:=mH k5 (q:=σ.ct+1) (ao:=.row e c) (e:=.row none e (0*zK K c) (0*zK K c)) ⟨_,k4.bk _ _ k2,rfl⟩ (k5.st.Bp (α:=Unit) e (zK K c));exact⟨g3,m,_,rfl,Le.refl m,(k1.trans k4).trans k6,k7⟩
 . rename_i e c hp;cases h;obtain⟨g1,k1,k2,k3⟩:=vz hI ⟨none,none,0,0,default⟩;obtain⟨g2,L2,k4,k5⟩:=nF (w':= .aw (σ.ct+1)) k3 hp fun cs hc=>by
    simp only[bt]at hc ⊢;exact⟨_,k2,by rw[hc]⟩
   obtain⟨g3,k6,k7⟩:=mH k5 (q:=σ.ct+1) (ao:=.arr e c true []) (e:=.arr none #[] e) ⟨_,#[],k4.bk _ _ k2,rfl,rfl,dE.nil _ _ _,fun _=>⟨rfl,o8.nil _ _ _⟩⟩ (k5.st.F0 _ _);exact⟨g3,m,_,rfl,Le.refl m,(k1.trans k4).trans k6,k7⟩
 . rename_i o hp;obtain⟨⟨ver,ao⟩,hlk,h1⟩:=aa.1 h;clear h;simp only at h1;split at h1
   case h_2=>cases h1
   case h_1 e c f l=>
   split at h1
   case h_2=>cases h1
   case h_1 o' hp2=>
   split at h1
   case h_2=>cases h1
   case h_1 he=>
   obtain rfl:=af he;have h3:=ar h1;subst h3;obtain⟨en,L0,Rst,ho,hperm,hob⟩:=lx (X:=[]) hI.ob hlk;obtain⟨gh,cs,h1,h2,rfl,h4,_⟩:=ho;have hs:St B m0 m (.arr gh.g cs e::((L0++ds.X)++Rst)):=(hI.st.perm (hperm.append_right _)).perm (by
    simp only[aR,az];exact List.Perm.cons _ (aV L0 aH))
   obtain⟨m1,hw,hle,hS,hE⟩:=St.wJ (bK K c) hs h4;have hI2:Inv K n ds B m0 rb {σ with ob:=cp [o'] σ.ob} g a m1 L0:=⟨hI.size,hI.defers,hI.at_,fun s bC v h=>(let⟨u,k1,k2⟩:=hI.tm s bC v h;⟨u,k1,k2.mono (GE.refl _) hle⟩),hob.mono (GE.refl _) hle,hS.kG,hI.fresh,hI.rt⟩;obtain⟨g2,L2,k4,k5⟩:=nF (w':= .sl c l) hI2 hp2 fun cs hc=>by
    simp only[bt]at hc ⊢;obtain⟨gh2,j1,j2⟩:=hc;rw[h1]at j1;cases j1;exact⟨gh.ad,gh.cap,by rw[j2,h2],hE⟩
   exact⟨g2,m1,_,hw,hle,k4,k5⟩
 . cases h;exact⟨g,m,L,rfl,Le.refl m,GE.refl g,hI⟩
 . cases h
theorem tH:∀{l:List (Nat×Nat×Mb)} {σ σ1:AS S} {g:GG S} {m:Mem} {L:List bB},Inv K n ds B m0 rb σ g a m L->AE l σ=some σ1->∃g1 m1 L1,m1.w=m.w/\Le m m1/\GE g g1/\Inv K n ds B m0 rb σ1 g1 a m1 L1
 |[],σ,σ1,g,m,L,hI,h=>by simp only[AE,ae]at h;subst h;exact⟨g,m,L,rfl,Le.refl m,GE.refl g,hI⟩
 |(t,i,k)::l,σ,σ1,g,m,L,hI,h=>by
  simp only[AE]at h;obtain⟨σ2,h1,h2⟩:=aa.1 h;obtain⟨g1,m1,L1,hw,hl,k1,k2⟩:=HG hI h1;obtain⟨g2,m2,L2,hw2,hl2,j1,j2⟩:=tH k2 h2;exact⟨g2,m2,L2,hw2.trans hw,hl.trans hl2,k1.trans j1,j2⟩
end
end E
end
section
open Go.RowKit G
namespace E
variable {S:Nat->Type}{tb:Tb S}{K:db tb}{P:Program}{tt:TypeId->Option (TI S)}{g:GG S}{m:Mem}
theorem fQ{α:Type}{t:Nat}:∀{l l':List (Nat×α)},look t (l++l')=match look t l with|some x=>some x|none=>look t l'
 |[],l'=>rfl
 |(u,x)::l,l'=>by
  rw[aR,bA,bA];by_cases h:u=t
  . rw[if_pos h,if_pos h]
  . rw[if_neg h,if_neg h];exact fQ
theorem jM{J:JA}:∀{l:List (Nat×Nat×AV S)} {s:Nat} {x:Nat×AV S},look s (lU J l)=some x->look s l=some x
 |[],s,x,h=>h
 |(t,y)::l,s,x,h=>by
  unfold lU at h;rw[bA];split at h
  . rename_i hk;by_cases e:t=s
    . subst e;exfalso;have key:∀l:List (Nat×Nat×AV S),look t (lU J l)=none:=fun l=>by
       induction l with
       |nil=>rfl
       |cons z l ih=>
        obtain⟨u,z⟩:=z
        unfold lU
        split
        . exact ih
        . rename_i hk'
          rw[bA]
          by_cases e:u=t
          . subst e;rw[hk]at hk';cases hk'
          . rw[if_neg e];exact ih
      rw[key]at h;cases h
    . rw[if_neg e];exact jM h
  . rw[bA]at h;by_cases e:t=s
    . rw[if_pos e]at h ⊢; exact h
    . rw[if_neg e]at h ⊢; exact jM h
theorem s8{tm:List (Nat×Nat×AV S)}:∀{l:List (Nat×Nat×AV S)} {s:Nat} {x:Nat×AV S},yN tm l=true->look s l=some x->∃v,look s tm=some (x.1,v)
 |[],s,x,_,h=>by cases h
 |(t,y)::l,s,x,hs,h=>by
  simp only[yN,al]at hs;rw[bA]at h;by_cases e:t=s
  . subst e;rw[if_pos rfl]at h;cases h;have h1:=hs.1;split at h1
    . rename_i z hz;obtain⟨z1,z2⟩:=z;have:=af h1;simp only at this;exact⟨z2,by rw[hz,this]⟩
    . cases h1
  . rw[if_neg e]at h;exact s8 hs.2 h
theorem vH{ob:List (Nat×Nat×AO S)}:∀{l:List (Nat×Nat×AO S)} {x:Nat×Nat×AO S},yK ob l=true->x∈l->∃a,look x.1 ob=some (x.2.1,a)
 |[],x,_,h=>by cases h
 |(t,y)::l,x,hs,h=>by
  simp only[yK,al]at hs;rcases aA.1 h with rfl|h
  . have h1:=hs.1;split at h1
    . rename_i z hz;obtain⟨z1,z2⟩:=z;have:=af h1;simp only at this;exact⟨z2,by rw[hz,this]⟩
    . cases h1
  . exact vH hs.2 h
theorem rM{r:List Nat}:∀{ob:List (Nat×Nat×AO S)},uO r ob=ob.filter fun x=>has x.1 r
 |[]=>rfl
 |(q,x)::l=>by
  unfold uO;split
  . rename_i h;rw[List.filter_cons_of_pos (by simp[h]),rM]
  . rename_i h;rw[List.filter_cons_of_neg (by simp[h])];exact rM
theorem wY{ids:Nat->Nat}:∀{l:List (AO S)} {L:List bB} {o v:Nat},Bn K g m ids o l L->(∀i a e,l[i]?=some a->L[i]?=some e->g.oo (v+i)=some (a,e))->dg K g m (Cc ids o v l) L
 |[],L,o,v,h,_=>h
 |a::l,L,o,v,h,ho=>by
  obtain⟨e,L',rfl,h1,h2⟩:=h;exact⟨e,L',rfl,ho 0 a e rfl rfl,h1,wY h2 fun i b f hb hf=>by
   have:=ho (i+1) b f (by simpa using hb) (by simpa using hf);rw[<- this];congr 1;omega⟩
theorem n7{t x:Nat}:∀{l:List (Nat×Nat)},look t l=some x->(t,x)∈l
 |[],h=>by cases h
 |(u,y)::l,h=>by
  rw[bA]at h;by_cases e:u=t
  . rw[if_pos e]at h;cases h;rw[e];exact aq
  . rw[if_neg e]at h;exact au _ (n7 h)
theorem E9{l:List (Nat×Nat)}{x:Nat}:∀{a b:Nat},(l.map (·.2)).Nodup->(a,x)∈l->(b,x)∈l->a=b:=by
 induction l with
 |nil=>intro a b _ h;cases h
 |cons p l ih=>
  intro a b hn ha hb
  obtain⟨h1,h2⟩:=List.nodup_cons.1 hn
  rcases aA.1 ha with e|ha'
  . rcases aA.1 hb with e2|hb'
    . rw[<- e]at e2;exact(Prod.mk.inj e2).1.symm
    . exact absurd (List.mem_map.2 ⟨_,hb',by rw[<- e]⟩) h1
  . rcases aA.1 hb with e2|hb'
    . exact absurd (List.mem_map.2 ⟨_,ha',by rw[<- e2]⟩) h1
    . exact ih h2 ha' hb'
theorem Ap{ids:Nat->Nat}:∀{l:List (AO S)} {L:List bB} {o v:Nat},Bn K g m ids o l L->(∀i,ids (o+i)=v+i)->(∀i a e,l[i]?=some a->L[i]?=some e->g.oo (v+i)=some (a,e))->dg K g m (Ao v l) L
 |[],L,o,v,h,_,_=>h
 |a::l,L,o,v,h,hi,ho=>by
  obtain⟨e,L',rfl,h1,h2⟩:=h;refine⟨e,L',rfl,ho 0 a e rfl rfl,?_,Ap h2 (fun i=>?_) fun i b f hb hf=>?_⟩
  . have:=hi 0;simp only[Nat.add_zero]at this;rw[this]at h1;exact h1
  . have:=hi (i+1);rw[show o+1+i=o+(i+1)by omega,this];omega
  . have:=ho (i+1) b f (by simpa using hb) (by simpa using hf);rw[<- this];congr 1;omega
theorem xl{ids:Nat->Nat}:∀{l:List (AO S)} {L:List bB} {o:Nat},Bn K g m ids o l L->L.length=l.length
 |[],L,o,h=>by simp only[Bn]at h;subst h;rfl
 |a::l,L,o,h=>by obtain⟨e,L',rfl,h1,h2⟩:=h;simp[xl h2]
theorem vq{z:ZL S}{f:((Nat×Nat×AO S)×bB)->Nat}:∀{z0:ZL S},(∀p0∈z0,∃p,jN z (f p0)=some p/\p.2=p0.2)->(cM z (z0.map f)).map Prod.snd=z0.map Prod.snd
 |[],_=>rfl
 |p0::z0,h=>by
  obtain⟨p,h1,h2⟩:=h p0 aq;have ih:=vq (z0:=z0) fun q hq=>h q (au _ hq)
  simp only[cM]at ih;simp only[cM,aD,List.filterMap_cons,h1,h2,ih]
section
variable {n:Nat}{ds ds0:Cx}{B:List Nat}{m0 ms:Mem}{rb:Nat->Option Gh}{σ0 σ σ1:AS S}{a a0:Act}{L L0:List bB}{g0:GG S}
theorem A4{L L' Y X:List bB}{m:Mem}(h:St B m0 m (L++X))(p:List.Perm L (L'++Y)):St B m0 m (L'++X):=by
 have h1:List.Perm (L++X) ((L'++X)++Y):=(List.Perm.append_right X p).trans (by rw[az,az];exact aV _ aH);exact(h.perm h1).kG
theorem n5{J:JA}{z:HT S J.ls}(h0:Inv K n ds0 B m0 rb σ0 g0 a0 ms L0)(hI:Inv K n ds B m0 rb σ g a m L)(hge:GE g0 g)(hle:Le ms m)(hp:pack tb J σ0 σ=some z)(hu:unpack tb J σ0 z=some σ1):
 ∃g1 m1 L1,m1.w=m.w/\Le ms m1/\GE g0 g1/\Inv K n ds B m0 rb σ1 g1 a m1 L1:=by
 unfold pack at hp
 obtain⟨σp,hpre,hp⟩:=aa.1 hp
 obtain⟨gp,mp_,Lp,hw,hle1,hge1,hI⟩:=tH hI hpre
 replace hge:=hge.trans hge1
 replace hle:=hle.trans hle1
 clear hpre hle1 hge1
 suffices ∃g1 L1,GE g0 g1/\Inv K n ds B m0 rb σ1 g1 a mp_ L1 by
  obtain⟨g1,L1,k1,k2⟩:=this;exact⟨g1,mp_,L1,hw,hle,k1,k2⟩
 clear hw
 revert hp hI hge hle
 generalize σp=σ,gp=g,mp_=m,Lp=L
 intro hp hI hge hle
 split at hp
 case h_2=>cases hp
 case h_1 hc=>
 simp only[al]at hc
 obtain⟨⟨⟨⟨c1,c2⟩,c3⟩,c4⟩,c5⟩:=hc
 have hfx:∀o q,look o J.fx=some q->(∃x,look q σ0.ob=some x)/\o<=200:=fun o q h=>by
  have:=aF.1 c4 _ (n7 h);simp only[al,Option.isSome_iff_exists]at this;exact⟨this.1,aj this.2⟩
 have hMf:eW J.fx:=⟨fun o o' q h h'=>E9 (eJ c5) (n7 h) (n7 h'),fun o q h=>(hfx o q h).2⟩
 obtain⟨⟨pd,mp0⟩,hp1,hp⟩:=aa.1 hp
 obtain⟨⟨qd,mp⟩,hq1,hp⟩:=aa.1 hp
 simp only at hq1 hp
 split at hp
 case h_2=>cases hp
 case h_1 hd=>
 have d2:=hd
 obtain⟨dd,hdd,hof⟩:=aa.1 hp
 unfold unpack at hu
 obtain⟨de,hde,hu1⟩:=aa.1 hu
 obtain⟨⟨tl,r1⟩,hf1,hu2⟩:=aa.1 hu1
 obtain⟨⟨ol,r2⟩,hf2,hu3⟩:=aa.1 hu2
 clear hu hu1 hu2
 simp only[ae]at hu3
 simp only at hf2
 rw[uv hof]at hde
 have:=ou J.LC hdd hde
 subst this
 have c3:=af c3
 have hJ:=J.vY
 simp only[al]at hJ
 have hJ1:=aj hJ.1
 have hJ2:=aj hJ.2
 let val:Nat->Value:=fun s=>((look s σ.tm).bind fun x=>g.vv x.1).getD undef
 have hval:∀t bC v,look t σ.tm=some (bC,v)->g.vv bC=some (val t):=fun t bC v ht=>by
  obtain⟨u,h1,_⟩:=hI.tm t bC v ht;show _=some (((look t σ.tm).bind fun x=>g.vv x.1).getD undef);rw[ht];simp[h1]
 obtain⟨s1,s2,s3⟩:=pM (val:=val) (fun t bC v ht=>by
  obtain⟨u,h1,h2⟩:=hI.tm t bC v ht;rw[hval t bC v ht]at h1;cases h1;exact h2) hp1
 obtain⟨t1,t2,t3⟩:=OS.jq hq1
 have hM:=t2 (s2 hMf)
 obtain⟨z,hz1,hz2,hz3⟩:=jO hI.ob
 obtain⟨z0,hy1,hy2,hy3⟩:=jO h0.ob
 have hnd:=eJ d2
 obtain⟨Y,hY⟩:=gL (z:=z) hnd
 have hkept:∃r:Nat->Bool,qC J σ0=σ0.ob.filter fun x=>r x.1:=by
  unfold qC;rw[mR,rM,List.filter_filter];exact⟨fun q=>!has q _&&has q _,rfl⟩
 obtain⟨r,hr⟩:=hkept
 have hk2:qC J σ0=(z0.filter fun p=>r p.1.1).map Prod.fst:=by rw[hr,<- hy1,List.filter_map];rfl
 have hk3:(qC J σ0).map (·.1)=(z0.filter fun p=>r p.1.1).map fun p=>p.1.1:=by rw[hk2,List.map_map];rfl
 have hsame:∀p0∈z0.filter (fun p=>r p.1.1),∃p,jN z p0.1.1=some p/\p.2=p0.2:=fun p0 hp0=>by
  have hm:=(bc.1 hp0).1;obtain⟨x,hx⟩:=vH c2 (x:=p0.1) (by rw[hk2];exact List.mem_map_of_mem hp0);rw[<- hz1,iM]at hx;obtain⟨p,hp1,hp2⟩:=ab.1 hx;refine⟨p,hp1,?_⟩;have e1:=(hz3 p (dL hp1).1).1;have e2:=hge.oo _ _ (hy3 p0 hm).1;rw[hp2]at e1;simp only at e1;rw[e1]at e2;have:=ar e2;exact(Prod.mk.inj this).2
 have hLK:=vq (z:=z) hsame
 have hJL:dg K g m (pick σ.ob (sf mp 0 J.dP.length)) ((cM z (sf mp 0 J.dP.length)).map Prod.snd):=by
  rw[<- hz1,<- gK];exact iG fun p hp=>by
   obtain⟨q,_,hq⟩:=List.mem_filterMap.1 hp;exact hz3 p (dL hq).1
 generalize hLJ:(cM z (sf mp 0 J.dP.length)).map Prod.snd=LJ at hJL
 let g1:GG S:=
  {bk:=fun i=>if σ0.ct<=i then(look (i-σ0.ct) mp).bind g.bk else g0.bk i
   vv:=fun i=>if σ0.ct<=i then(if σ0.ct+64<=i then(tl[i-(σ0.ct+64)]?).map fun x=>val x.1 else none)else g0.vv i
   oo:=fun i=>if σ0.ct<=i then(match ol[i-σ0.ct]?,LJ[i-σ0.ct]? with|some a,some e=>some (a,e)|_,_=>none)else g0.oo i}
 have ge1:GE g0 g1:=⟨fun i x hx=>by
  show(if _ then _ else _)=_;rw[if_neg fun h=>by rw[(h0.fresh i h).1]at hx;cases hx];exact hx,fun i x hx=>by
  show(if _ then _ else _)=_;rw[if_neg fun h=>by rw[(h0.fresh i h).2.1]at hx;cases hx];exact hx,fun i x hx=>by
  show(if _ then _ else _)=_;rw[if_neg fun h=>by rw[(h0.fresh i h).2.2]at hx;cases hx];exact hx⟩
 have hRen:Ren mp g g1 (J.ids σ0.ct):=fun o q h ho hb=>by
  unfold JA.ids;split
  . rename_i q' hq';have:=t1 _ _ (s1 _ _ hq');rw[ho]at this;cases this;obtain⟨⟨ver,ao⟩,hx⟩:=(hfx o q hq').1;obtain⟨e,_,_,ho2,_,_⟩:=lx (X:=[]) h0.ob hx;have hb0:∃gh,g0.bk q=some gh:=by
     cases ao with
     |box T cs=>obtain⟨gh,b,vs,h1,_⟩:=ho2;exact⟨gh,h1⟩
     |row T c=>obtain⟨gh,h1,_⟩:=ho2;exact⟨gh,h1⟩
     |arr T c f l=>obtain⟨gh,cs,h1,_⟩:=ho2;exact⟨gh,h1⟩
     |loop r st tm=>obtain⟨gh,_,_,_,_,h1,_⟩:=ho2;exact⟨gh,h1⟩
     |map t kc vc l hole=>obtain⟨gh,_,_,_,h1,_⟩:=ho2;exact⟨gh,h1⟩
     |kF t et kc c l hole=>obtain⟨gh,_,_,_,_,h1,_⟩:=ho2;exact⟨gh,h1⟩
     |gi t kc vc l hole q=>obtain⟨gh,_,_,_,h1,_⟩:=ho2;exact⟨gh,h1⟩
     |oM kc o st=>obtain⟨gh,_,_,_,h1,_⟩:=ho2;exact⟨gh,h1⟩
     |wb t kc l=>obtain⟨gh,_,_,_,h1,_⟩:=ho2;exact⟨gh,h1⟩
    obtain⟨gh,hb0⟩:=hb0;have:=hge.bk _ _ hb0;rw[hb]at this;cases this;show(if σ0.ct<=q then _ else g0.bk q)=_;rw[if_neg fun hle=>by rw[(h0.fresh q hle).1]at hb0;cases hb0];exact hb0
  . show(if σ0.ct<=σ0.ct+o then(look (σ0.ct+o-σ0.ct) mp).bind g.bk else _)=_;rw[if_pos (by omega),show σ0.ct+o-σ0.ct=o by omega,ho];exact hb
 obtain⟨e1,e2,e3⟩:=s3 g1 _ _ _ _ _ (hRen.sub t1) hf1
 rw[e1]at hf2
 obtain⟨_,f2,f3⟩:=OS.oC hq1 (Sub.refl _) hJL g1 _ [] _ _ hRen (by rw[aU];exact hf2)
 have f4:=xl f2
 refine⟨g1,LJ++(z0.filter fun p=>r p.1.1).map Prod.snd,ge1,?_⟩
 subst hu3
 refine⟨hI.size,hI.defers,fun t bC v hs=>?_,fun s bC v hs=>?_,k9 (wY f2 fun i x e hx he=>?_) ?_,?_,fun i hi=>⟨?_,?_,?_⟩,⟨h0.rt.1,fun j q hj=>?_⟩⟩
 ·
  simp only at hs
  rw[fQ]at hs
  split at hs
  . rename_i x hx
    cases hs
    obtain⟨i,hi⟩:=List.getElem?_of_mem (dH hx)
    obtain⟨e4,e5,y,e6⟩:=e3 i _ hi
    simp only at e4 e6
    show(if _ then _ else _)=_
    rw[if_pos (by omega),if_pos (by omega),e4,show σ0.ct+64+i-(σ0.ct+64)=i by omega,hi]
    obtain⟨y1,y2⟩:=y
    have e7:=hval _ _ _ e6
    rw[<- c3]at e6
    rw[hI.at_ _ _ _ e6]at e7
    exact e7.symm
  . obtain⟨v',hv'⟩:=s8 c1 hs
    have h1:=jM hs
    obtain⟨u,hu1,_⟩:=h0.tm _ _ _ h1
    rw[<- c3]at hv'
    have h2:=hI.at_ _ _ _ hv'
    simp only at h2
    rw[hge.vv _ _ hu1]at h2
    rw[ge1.vv _ _ hu1];exact h2
 . simp only at hs
   rw[fQ]at hs
   split at hs
   . rename_i x hx
     cases hs
     obtain⟨i,hi⟩:=List.getElem?_of_mem (dH hx)
     obtain⟨e4,e5,y,e6⟩:=e3 i _ hi
     simp only at e4 e5
     refine⟨val s,?_,e5⟩
     show(if _ then _ else _)=_
     rw[if_pos (by omega),if_pos (by omega),e4,show σ0.ct+64+i-(σ0.ct+64)=i by omega,hi]
     rfl
   . obtain⟨u,hu1,hu2⟩:=h0.tm _ _ _ (jM hs)
     exact⟨u,ge1.vv _ _ hu1,hu2.mono ge1 hle⟩
 . show(if _ then _ else _)=_
   rw[if_pos (by omega),show σ0.ct+i-σ0.ct=i by omega,hx,he]
 . rw[hk2]
   exact iG fun p hp=>by
    obtain⟨k1,k2⟩:=hy3 p (bc.1 hp).1;exact⟨ge1.oo _ _ k1,k2.mono ge1 hle⟩
 . refine A4 hI.st (Y:=Y.map Prod.snd) ?_
   show List.Perm L ((LJ++(z0.filter fun p=>r p.1.1).map Prod.snd)++Y.map Prod.snd)
   ·
    rw[<- hz2,<- hLJ,<- hLK,<- hk3,<- bl,<- bl]
    refine List.Perm.map _ ?_
    have:cM z (sf mp 0 J.dP.length)++cM z ((qC J σ0).map (·.1))=cM z (sf mp 0 J.dP.length++(qC J σ0).map (·.1)):=by
     simp only[cM,List.filterMap_append]
    rw[this];exact hY
 . simp only at hi
   show(if _ then _ else _)=_
   rw[if_pos (by omega)]
   cases hl:look (i-σ0.ct) mp with
   |none=>rfl
   |some q=>have:=hM.small _ _ hl;omega
 . simp only at hi
   show(if _ then _ else _)=_
   rw[if_pos (by omega),if_pos (by omega),List.getElem?_eq_none (by omega)];rfl
 . simp only at hi
   show(if _ then _ else _)=_
   rw[if_pos (by omega),List.getElem?_eq_none (l:=ol) (by omega)]
 . obtain⟨h,k1,k2⟩:=h0.rt.2 j _ hj
   exact⟨h,k1,ge1.bk _ _ k2⟩
end
end E
end
section
open Go.RowKit G
open Go.ChangeMaps (setBlock)
namespace E
variable {S:Nat->Type}{tb:Tb S}{K:db tb}{P:Program}{tt:TypeId->Option (TI S)}{g:GG S}{m m0:Mem}{n:Nat}{ds:Cx}{B:List Nat}{rb:Nat->Option Gh}{σ σ2:AS S}{a:Act}{L:List bB}
theorem lV{t s:Nat}:∀{l:List (Nat×Nat×AV S)},look s (Dh t l)=if s=t then none else look s l
 |[]=>by unfold Dh;simp[look]
 |(u,x)::l=>by
  have ih:=lV (t:=t) (s:=s) (l:=l);unfold Dh at ih ⊢;rw[List.filter_cons];by_cases h:u=t
  . subst h;rw[if_neg (by simp),ih];by_cases h2:s=u
    . rw[if_pos h2,if_pos h2]
    . rw[if_neg h2,if_neg h2,bA,if_neg (Ne.symm h2)]
  . rw[if_pos (by rw[hC h];rfl),bA,bA,ih];by_cases h2:s=t
    . rw[if_pos h2,if_pos h2,if_neg (by rw[h2];exact h)]
    . rw[if_neg h2,if_neg h2]
theorem mS(hI:Inv K n ds B m0 rb σ g a m L)(t:Nat):Inv K n ds B m0 rb (σ.bW t) g a m L:=by
 have key:∀s bC v,look s (σ.bW t).tm=some (bC,v)->look s σ.tm=some (bC,v):=fun s bC v h=>by
  unfold AS.bW at h;simp only at h;rw[lV]at h;split at h
  . cases h
  . exact h
 exact⟨hI.size,hI.defers,fun t' bC v h=>hI.at_ t' bC v (key _ _ _ h),fun s bC v h=>hI.tm s bC v (key _ _ _ h),hI.ob,hI.st,hI.fresh,hI.rt⟩
theorem lu(σ:AS S)(t:Nat):look (σ.fb+t) (σ.bW t).tm=none:=by
 unfold AS.bW;simp only;rw[lV,if_pos rfl]
theorem lr{t u:Nat}(h:look (σ.fb+u) σ.tm=none):look (σ.fb+u) (σ.bW t).tm=none:=by
 unfold AS.bW;simp only;rw[lV];split
 . rfl
 . exact h
theorem tD(hI:Inv K n ds B m0 rb σ g a m L){t:Nat}(ht:look (σ.fb+t) σ.tm=none)(v:Value):Inv K n ds B m0 rb σ g (a.put (some t) v) m L:=
 ⟨by simp[Act.put,hI.size],hI.defers,fun t' bC x h=>by
  rw[Act.eval_put (fun d hd e=>by cases hd;cases e;rw[ht]at h;cases h)];exact hI.at_ t' bC x h,hI.tm,hI.ob,hI.st,hI.fresh,hI.rt⟩
theorem kg:∀{ob:List (Nat×Nat×AO S)} {L:List bB} {q ver:Nat} {ao:AO S},dg K g m ob L->look q ob=some (ver,ao)->∃e∈L,g.oo ver=some (ao,e)/\eO K g m q ao e
 |[],_,_,_,_,_,h=>by simp[look]at h
 |(u,x)::ob,L,q,ver,ao,⟨e,L',h0,h1,h2,h3⟩,h=>by
  subst h0;rw[bA]at h;split at h
  . rename_i hu;subst hu;cases h;exact⟨e,aq,h1,h2⟩
  . obtain⟨e',j1,j2⟩:=kg h3 h;exact⟨e',au _ j1,j2⟩
theorem nc{q o:Nat}(h:o≠q):∀{ob:List (Nat×Nat×AO S)},look o (cp [q] ob)=look o ob
 |[]=>rfl
 |(u,x)::ob=>by
  unfold cp;by_cases hu:u=q
  . subst hu;rw[show has u [u]=true from fp.2 aq];simp only;rw[nc h,bA,if_neg (Ne.symm h)]
  . rw[show has u [q]=false from by
     cases hb:has u [q]with
     |false=>rfl
     |true=>exact absurd (List.mem_singleton.1 (fp.1 hb)) hu]
    simp only;rw[bA,bA,nc h]
theorem qA{b:Nat}{o:Obj}(hI:Inv K n ds B m0 rb σ g a m L)(h:bB.obj b o∈L):m.w.heap[b]?=some o:=hI.st.ow.ok (.obj b o) (aN _ h)
structure Ma(K:db tb)(σ:AS S)(g:GG S)(a:Act)(m:Mem)(q it ver o ver2:Nat)(t:TypeId)(kc vc:Co)(st:Option (Option (T S kc)))(l:List (T S kc×T S vc))(gq:Gh)(r:Nat)(seen:Array Nat)(es:Array MapEntry):Prop where
 lq:look q σ.ob=some (ver,.oM kc o st)
 lo:look o σ.ob=some (ver2,.gi t kc vc l none q)
 bk:g.bk q=some gq
 gr:gq.g=some r
 ev:a.eval (.tmp it)=.pointer (some ⟨r,0,none⟩)
 hr:m.w.heap[r]?=some (.mapIter (some gq.cap) gq.n seen gq.n)
 hb:m.w.heap[gq.cap]?=some (.map es gq.n)
 Q0:OL K m kc gq.sk seen st
 mp:fA (b8 K kc m) (fun y v=>RK K vc m y [v]) es gq.n l
 sk:es.toList.map (fun e=>(e.key,e.born))=gq.sk
theorem J1{q it:Nat}(hI:Inv K n ds B m0 rb σ g a m L)(h:Ca q it σ=true):∃ver o ver2 t kc vc st l gq r seen es,Ma K σ g a m q it ver o ver2 t kc vc st l gq r seen es:=by
 unfold Ca at h;split at h
 . rename_i bC q' ver kc o st hit hq;split at h
   . rename_i ver2 t kc' vc l q2 ho;simp only[al]at h;obtain⟨e1,e2,e3⟩:=h;obtain rfl:=af e1;obtain rfl:=af e2;split at e3
     . rename_i hk _;subst hk;obtain⟨h1,h2⟩:=hI.slot hit;simp only[bu,bt]at h2;obtain⟨gq,r,k1,k2,k3⟩:=h2;obtain⟨e,he,_,gh,go,r',seen,j1,j2,j3,j4,rfl,j6⟩:=kg hI.ob hq;rw[k1]at j1;cases j1;rw[k2]at j2;cases j2;obtain⟨e2,he2,_,gm,b,es,gq',m1,m2,m3,m4,rfl,m5,m6,m7⟩:=kg hI.ob ho;rw[k1]at m3;cases m3;rw[m1]at j3;cases j3;exact⟨ver,o,ver2,t,_,vc,st,l,gq,r,seen,es,hq,ho,k1,k2,by simpa using k3,qA hI he,by rw[m4];exact qA hI he2,j6,m5,m7⟩
     . cases e3
   . cases h
 . cases h
theorem J3{q it nx c ver o ver2 r:Nat}{t:TypeId}{kc vc kx:Co}{st:Option (Option (T S kc))}{l:List (T S kc×T S vc)}{gq:Gh}{seen:Array Nat}{es:Array MapEntry}{x:T S kx}
 (hI:Inv K n ds B m0 rb σ g a m L) (hA:Ma K σ g a m q it ver o ver2 t kc vc st l gq r seen es) (h:E7 q it nx c x σ=some σ2) {w1:World} (hw1:w1=m.w\/w1=m.w.drew) {j:Nat} {p:Value×Nat} (hsk:gq.sk[j]?=some p) (hx:b8 K kx m x p.1) (v1 v2:Value):
 ∃g2 m2 L2,m2.w=setBlock w1 r (.mapIter (some gq.cap) gq.n (seen.push p.2) gq.n)/\Le m m2/\GE g g2/\Inv K n ds B m0 rb σ2 g2 ((a.put (some nx) v1).put (some c) v2) m2 L2/\∃ao,g2.oo (σ.ct+32)=some (ao,.obj r (.mapIter (some gq.cap) gq.n (seen.push p.2) gq.n)):=by
 unfold E7 at h
 rw[hA.lq]at h
 simp only at h
 split at h
 case h_2=>cases h
 case h_1 hk hat _=>
 subst hk
 cases h
 have hI1:=mS (mS hI nx) c
 have hI2:Inv K n ds B m0 rb ((σ.bW nx).bW c) g ((a.put (some nx) v1).put (some c) v2) m L:=
  tD (tD hI1 (lr (σ:=σ.bW nx) (lu σ nx)) v1) (lu (σ.bW nx) c) v2
 obtain⟨e,L0,Rst,ho,hperm,hob⟩:=lx (X:=[]) hI2.ob (show look q ((σ.bW nx).bW c).ob=some (ver,.oM kx o st) from hA.lq)
 have hmem:e∈L:=hperm.mem_iff.2 aq
 obtain⟨gh,go,r',seen',j1,j2,j3,j4,rfl,j6⟩:=ho
 rw[hA.bk]at j1;cases j1
 rw[hA.gr]at j2;cases j2
 have hh:=qA hI hmem
 rw[hA.hr]at hh
 cases hh
 have hst:=hI2.st.perm (hperm.append_right ds.X)
 have hr1:w1.heap[r]?=some (.mapIter (some gq.cap) gq.n seen gq.n):=by rcases hw1 with rfl|rfl<;>exact hA.hr
 have hw:m.w.grownBy (setBlock w1 r (.mapIter (some gq.cap) gq.n (seen.push p.2) gq.n)) (some r):=by
  rcases hw1 with rfl|rfl<;>exact⟨rfl,rfl,rfl,by simp[setBlock],fun i _ hi=>by
   have hne:r≠i:=fun e=>hi (by rw[e])
   first|(simp[setBlock,hne];done)|(simp[setBlock,hne];rfl)⟩
 have hsz:(setBlock w1 r (.mapIter (some gq.cap) gq.n (seen.push p.2) gq.n)).heap.size=m.w.heap.size:=by rcases hw1 with rfl|rfl<;>simp[setBlock]
 have hbb:(setBlock w1 r (.mapIter (some gq.cap) gq.n (seen.push p.2) gq.n)).heap[r]?=some (.mapIter (some gq.cap) gq.n (seen.push p.2) gq.n):=by
  have hlt:r<w1.heap.size:=(Array.getElem?_eq_some_iff.1 hr1).1;simp[setBlock,hlt]
 have hst':St B m0 m (bB.obj r (.mapIter (some gq.cap) gq.n seen gq.n)::((L0++Rst)++ds.X)):=hst
 have hS:=hst'.gu hw hsz hbb
 have hle:Le m ⟨setBlock w1 r (.mapIter (some gq.cap) gq.n (seen.push p.2) gq.n),m.ok⟩:=((St.refl hst'.ow).gu hw hsz hbb).le
 have hS2:St B m0 ⟨setBlock w1 r (.mapIter (some gq.cap) gq.n (seen.push p.2) gq.n),m.ok⟩ ((bB.obj r (.mapIter (some gq.cap) gq.n (seen.push p.2) gq.n)::L0)++ds.X):=by
  have h5:List.Perm (bB.obj r (.mapIter (some gq.cap) gq.n (seen.push p.2) gq.n)::((L0++Rst)++ds.X)) (((bB.obj r (.mapIter (some gq.cap) gq.n (seen.push p.2) gq.n)::L0)++ds.X)++Rst):=by
   simp only[aR,az];exact List.Perm.cons _ (aV L0 aH)
  exact(hS.perm h5).kG
 have hI3:Inv K n ds B m0 rb {(σ.bW nx).bW c with ob:=cp [q] ((σ.bW nx).bW c).ob} g ((a.put (some nx) v1).put (some c) v2) ⟨setBlock w1 r (.mapIter (some gq.cap) gq.n (seen.push p.2) gq.n),m.ok⟩ L0:=
  ⟨hI2.size,hI2.defers,hI2.at_,fun s bC v h=>(let⟨u,k1,k2⟩:=hI2.tm s bC v h;⟨u,k1,k2.mono (GE.refl g) hle⟩),hob.mono (GE.refl g) hle,by
   have h5:List.Perm ((bB.obj r (.mapIter (some gq.cap) gq.n (seen.push p.2) gq.n)::L0)++ds.X) ((L0++ds.X)++[bB.obj r (.mapIter (some gq.cap) gq.n (seen.push p.2) gq.n)]):=by
    rw[aR];exact(List.perm_append_singleton _ _).symm
   exact(hS2.perm h5).kG,hI2.fresh,hI2.rt⟩
 have hobj:eO K g ⟨setBlock w1 r (.mapIter (some gq.cap) gq.n (seen.push p.2) gq.n),m.ok⟩ q (.oM kx o (some (some (sM rfl x)))) (.obj r (.mapIter (some gq.cap) gq.n (seen.push p.2) gq.n)):=
  ⟨gq,go,r,seen.push p.2,hA.bk,hA.gr,j3,j4,rfl,j,p,hsk,by simp,b8.mono K hle hx⟩
 obtain⟨g2,k1,k2⟩:=mH hI3 hobj hS2
 refine⟨g2,_,_,rfl,hle,k1,k2,.oM kx o (some (some (sM rfl x))),?_⟩
 obtain⟨e,L',h0,h1,_⟩:=k2.ob
 cases h0
 exact h1
theorem Hk{q it nx c ver o ver2 r:Nat}{t:TypeId}{kc vc:Co}{st:Option (Option (T S kc))}{l:List (T S kc×T S vc)}{gq:Gh}{seen:Array Nat}{es:Array MapEntry}
 (hI:Inv K n ds B m0 rb σ g a m L) (hA:Ma K σ g a m q it ver o ver2 t kc vc st l gq r seen es) (h:wX q it nx c σ=some σ2) (v1 v2:Value):
 ∃g2 L2,GE g g2/\Inv K n ds B m0 rb σ2 g2 ((a.put (some nx) v1).put (some c) v2) m L2:=by
 unfold wX at h
 rw[hA.lq]at h
 simp only at h
 rw[hA.lo]at h
 split at h
 case h_2=>cases h
 case h_1 e1 _=>
 cases e1
 cases h
 have hI1:=mS (mS (mS hI nx) c) it
 have hI2:Inv K n ds B m0 rb (((σ.bW nx).bW c).bW it) g ((a.put (some nx) v1).put (some c) v2) m L:=
  tD (tD hI1 (lr (σ:=(σ.bW nx).bW c) (lr (σ:=σ.bW nx) (lu σ nx))) v1) (lr (σ:=(σ.bW nx).bW c) (lu (σ.bW nx) c)) v2
 have hoq:o≠q:=fun e=>by
  have h1:=hA.lq;have h2:=hA.lo;rw[e,h1]at h2;cases h2
 obtain⟨e,L0,Rst,ho,hperm,hob⟩:=lx (X:=[]) hI2.ob (show look q (((σ.bW nx).bW c).bW it).ob=some (ver,.oM kc o st) from hA.lq)
 have hI3:Inv K n ds B m0 rb {(((σ.bW nx).bW c).bW it)with ob:=cp [q] (((σ.bW nx).bW c).bW it).ob} g ((a.put (some nx) v1).put (some c) v2) m L0:=
  ⟨hI2.size,hI2.defers,hI2.at_,hI2.tm,hob,by
   have h5:List.Perm ((e::(L0++Rst))++ds.X) ((L0++ds.X)++(e::Rst)):=by
    show List.Perm (e::((L0++Rst)++ds.X)) _;refine(List.Perm.cons _ ?_).trans (List.perm_middle (l₁:=L0++ds.X) (l₂:=Rst) (a:=e)).symm;rw[az,az];exact aV L0 aH
   exact((hI2.st.perm (hperm.append_right _)).perm h5).kG,hI2.fresh,hI2.rt⟩
 obtain⟨e2,L1,Rst2,ho2,hperm2,hob2⟩:=lx (X:=[]) hI3.ob (show look o (cp [q] (((σ.bW nx).bW c).bW it).ob)=some (ver2,.gi t kc vc l none q) from by rw[nc hoq];exact hA.lo)
 have hp2:List.Perm ((e2::(L1++Rst2))++ds.X) (((e2::L1)++ds.X)++Rst2):=by
  simp only[aR,az];exact List.Perm.cons _ (aV L1 aH)
 have hS2:St B m0 m ((e2::L1)++ds.X):=((hI3.st.perm (hperm2.append_right _)).perm hp2).kG
 have hI4:Inv K n ds B m0 rb {(((σ.bW nx).bW c).bW it)with ob:=cp [o] (cp [q] (((σ.bW nx).bW c).bW it).ob)} g ((a.put (some nx) v1).put (some c) v2) m L1:=
  ⟨hI2.size,hI2.defers,hI2.at_,hI2.tm,hob2,by
   have h5:List.Perm ((e2::L1)++ds.X) ((L1++ds.X)++[e2]):=by
    rw[aR];exact(List.perm_append_singleton _ _).symm
   exact(hS2.perm h5).kG,hI2.fresh,hI2.rt⟩
 obtain⟨gm,b,es',gq',m1,m2,m3,m4,rfl,m5,m6,m7⟩:=ho2
 obtain⟨g2,k1,k2⟩:=mH hI4 (q:=o) (ao:=.map t kc vc l none) (e:=.obj b (.map es' gq'.n)) ⟨gm,b,es',gq'.n,m1,m2,rfl,m5,trivial⟩ hS2
 exact⟨g2,_,k1,k2⟩
theorem J2{q it nx c:Nat}{kc:Co}{x:T S kc}(h:E7 q it nx c x σ=some σ2):Ca q it σ=true:=by
 unfold E7 at h;split at h
 . split at h
   . rename_i hb;exact hb
   . cases h
 . cases h
theorem Hj{q it nx c:Nat}(h:wX q it nx c σ=some σ2):Ca q it σ=true:=by
 unfold wX at h;split at h
 . split at h
   . rename_i hb;exact hb
   . cases h
 . cases h
theorem Fg{α:Type}(l:List α):(List.range l.length).filterMap (fun i=>l[i]?)=l:=by
 have key:∀k,k<=l.length->(List.range k).filterMap (fun i=>l[i]?)=l.take k:=fun k=>by
  induction k with
  |zero=>intro _;simp
  |succ k ih=>
   intro h
   rw[List.range_succ,List.filterMap_append,ih (by omega),List.take_succ_eq_append_getElem (by omega)]
   simp[show k<l.length by omega]
 rw[key _ (Nat.le_refl _),List.take_length]
end E
end
end Go.Proofs.YtjfkdglgecgjfaaGreat
