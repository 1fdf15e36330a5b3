/- Part of the proof. -/
import Derived.Test.YtekpafdhgkocaaaGreatZEvC
namespace Go.Proofs.YtekpafdhgkocaaaGreat
section
open Go.RowKit G
namespace E
variable {S:Nat->Type}{tb:Tb S}{K:ju tb}{P:Program}{tt:TypeId->Option (TI S)}{Φ:List (cU S)}{fa:FA S}{o:Oper}{xs:List (AV S)}{ob:List (Nat×Nat×AO S)}{ct:Nat}{γ:Type}{k:sT S->Option γ}{r:γ}
theorem PA{c:Call}{b:Builtin}(hc:c.callee=.builtin b)(ho:o.op=.call c)(hl:xs.length=o.op.operands.toList.length)(h1:xs.length=1):∃x,c.args= #[x]:=by
 rw[ho]at hl;simp[Op.operands,Call.operands,hc,h1]at hl;obtain⟨x,hx⟩:=Array.size_eq_one_iff.1 hl.symm;exact⟨x,hx⟩
theorem AR{c:Call}{b:Builtin}(hc:c.callee=.builtin b)(ho:o.op=.call c)(hl:xs.length=o.op.operands.toList.length)(h1:xs.length=2):∃x y,c.args= #[x,y]:=by
 rw[ho]at hl;simp[Op.operands,Call.operands,hc,h1]at hl
 match hc:c.args with
 |⟨[x,y]⟩=>exact⟨x,y,rfl⟩
 |⟨[]⟩=>rw[hc]at hl;simp at hl
 |⟨[_]⟩=>rw[hc]at hl;simp at hl
 |⟨_::_::_::_⟩=>rw[hc]at hl;simp at hl
theorem Ue(hT:gj P K tt)(hΦ:∀c∈Φ,Sound P K c)(hl:xs.length=o.op.operands.toList.length)(h:core tb tt Φ fa o xs ob ct k=some r):ji P K o xs ob ct k r:=by
 unfold core at h;split at h
 case h_1 ho=>split at h;exact US (.inl ho) h;cases h
 case h_2 ho=>split at h;exact US (.inr ho) h;cases h
 case h_3 ho=>split at h;exact abi ho h;cases h
 case h_4 ho=>split at h;exact Tn ho h;cases h
 case h_5 ho=>
  split at h
  . exact Ri ho h
  . cases h
 case h_6 ho=>split at h;exact adA hT ho h;cases h
 case h_7 ho=>split at h;exact aeZ ho h;cases h
 case h_8 ho=>split at h;exact abd hT ho h;cases h
 case h_9 ho=>
  split at h
  . obtain⟨ti,hti,h⟩:=ae.1 h
    split at h
    . rename_i fs hd
      obtain⟨f,hf,h⟩:=ae.1 h
      exact Pw hT ho hti hd hf h
    . cases h
  . cases h
 case h_10 ho=>
  split at h
  . obtain⟨ti,hti,h⟩:=ae.1 h
    split at h
    . rename_i fs hd
      obtain⟨f,hf,h⟩:=ae.1 h
      obtain⟨fi,hfi,h⟩:=ae.1 h
      exact YM hT ho hti hd hf hfi h
    . cases h
  . cases h
 case h_11 ho=>
  obtain⟨ti,hti,h⟩:=ae.1 h
  obtain⟨cs,hcs,h⟩:=ae.1 h
  exact YI hT ho hti h hcs
 case h_12 ho=>
  obtain⟨vs,hvs,h⟩:=ae.1 h
  exact Re ho hvs h
 case h_13 ho=>
  obtain⟨ti,hti,h⟩:=ae.1 h
  exact YH hT ho hti h
 case h_14 ho=>
  split at h
  . obtain⟨cs,hcs,h⟩:=ae.1 h
    exact adB ho hcs h
  . cases h
 case h_15 ho=>split at h;exact abg hT ho h;cases h
 case h_16 ho=>split at h;exact YQ hT ho h;cases h
 case h_17 ho=>
  split at h
  . obtain⟨i,hi,h⟩:=ae.1 h
    exact Px hT ho hi h
  . cases h
 case h_18 ho=>
  obtain⟨ti,hti,h⟩:=ae.1 h
  split at h
  . rename_i hd _
    obtain⟨i,hi,h⟩:=ae.1 h
    obtain⟨c,hc,h⟩:=ae.1 h
    have htd:=(hT.ty _ ti hti).td
    rw[hd]at htd
    exact YO ho htd hi hc h
  . rename_i hd _
    obtain⟨ei,hei,h⟩:=ae.1 h
    obtain⟨i,hi,h⟩:=ae.1 h
    have htd:=(hT.ty _ ti hti).td
    rw[hd]at htd
    split at h
    . rename_i h1 h2 h3
      obtain⟨u,hc,hk⟩:=ae.1 h
      have h1:=ah h1
      subst h1
      exact Rc hT ho htd hei (ah h2) h3 hi (nL hc) hk
    . cases h
  . cases h
 case h_19 ho=>
  split at h
  . obtain⟨⟨a1,a2⟩,ha,h⟩:=ae.1 h
    obtain⟨⟨b1,b2⟩,hb,h⟩:=ae.1 h
    obtain⟨⟨c1,c2⟩,hc,h⟩:=ae.1 h
    split at h
    . split at h
      . exact Wy hT ho ha hb hc h
      . exact Rj hT ho ha hb hc h
    . split at h
      . exact abh hT ho ha hb hc h
      . exact ok_slice hT ho ha hb hc h
  . cases h
 case h_20 ho=>
  obtain⟨ec,hec,h⟩:=ae.1 h
  obtain⟨ei,hei,h⟩:=ae.1 h
  exact MX hT ho hec hei h
 case h_21 ho=>
  split at h
  . split at h
    . rename_i i hi
      exact Tr hT ho hi h
    . split at h
      . rename_i i hi
        exact Rb hT ho hi h
      . obtain⟨i,hi,h⟩:=ae.1 h
        exact Rd hT ho hi h
  . cases h
 case h_22 ho=>
  split at h
  . split at h
    . exact Wx hT ho h
    . split at h
      . exact YN hT ho h
      . exact Tp hT ho h
    . exact Tq hT ho h
  . cases h
 case h_23 ho=>split at h;exact Rh hT ho h;cases h
 case h_24 ho=>split at h;exact MY hT ho h;cases h
 case h_25 ho=>
  split at h
  . split at h
    . exact Pz hT ho h
    . split at h
      . exact abf hT ho h
      . cases h
    . exact UR hT (.inl ho) h
  . cases h
 case h_26 ho=>split at h;exact YP hT ho h;cases h
 case h_27 ho=>split at h;exact YL hT ho h;cases h
 case h_28 ho=>
  split at h
  . rename_i hxy
    obtain⟨n,hn,h⟩:=ae.1 h
    obtain⟨ec,hec,h⟩:=ae.1 h
    obtain⟨ei,hei,h⟩:=ae.1 h
    split at h
    . rename_i h1 hA
      obtain⟨z,hz,h⟩:=ae.1 h
      obtain⟨u,hu,h⟩:=ae.1 h
      exact Py hT ho hxy hn hec hei h1 hA hz hu h
    . cases h
  . cases h
 case h_29 c ho=>
  split at h
  . rename_i b hb
    obtain⟨ce,ca,cts⟩:=c
    simp only at hb
    subst hb
    split at h
    . split at h
      . rename_i t ht
        obtain⟨x,hx⟩:=PA rfl ho hl rfl
        simp only at hx ht
        subst hx
        have:cts= #[t]:=by apply Array.ext';simpa using ht
        subst this
        exact adD hT ho h
      . cases h
    . split at h
      . rename_i t t' ht
        split at h
        . rename_i he
          obtain rfl:=ah he
          obtain⟨x,y,hx⟩:=AR rfl ho hl rfl
          simp only at hx ht
          subst hx
          have:cts= #[t,t]:=by apply Array.ext';simpa using ht
          subst this
          split at h
          . exact Tl hT ho h
          . exact Wv hT ho h
        . obtain⟨x,y,hx⟩:=AR rfl ho hl rfl
          simp only at hx ht
          subst hx
          have:cts= #[t,t']:=by apply Array.ext';simpa using ht
          subst this
          exact Tm hT ho h
      . cases h
    . split at h
      . rename_i t t' ht
        obtain⟨x,y,hx⟩:=AR rfl ho hl rfl
        simp only at hx ht
        subst hx
        have:cts= #[t,t']:=by apply Array.ext';simpa using ht
        subst this
        exact abe hT ho h
      . cases h
    . split at h
      . rename_i t ht
        obtain⟨x,hx⟩:=PA rfl ho hl rfl
        simp only at hx ht
        subst hx
        have:cts= #[t]:=by apply Array.ext';simpa using ht
        subst this
        exact YJ hT ho h
      . cases h
    . split at h
      . rename_i t t' ht
        obtain⟨x,y,hx⟩:=AR rfl ho hl rfl
        simp only at hx ht
        subst hx
        have:cts= #[t,t']:=by apply Array.ext';simpa using ht
        subst this
        exact Ww hT ho h
      . cases h
    . split at h
      . rename_i t ht
        obtain⟨ec,hec,h1⟩:=ae.1 h
        obtain⟨x,hx⟩:=PA rfl ho hl rfl
        simp only at hx ht
        subst hx
        have:cts= #[t]:=by apply Array.ext';simpa using ht
        subst this
        exact adC hT ho hec h1
      . cases h
    . obtain⟨p,hp,h⟩:=ae.1 h
      obtain⟨q,hq,h⟩:=ae.1 h
      split at h
      . rename_i hk _
        obtain⟨x,y,hx⟩:=AR rfl ho hl rfl
        simp only at hx
        subst hx
        exact adF ho hp hq h hk
      . cases h
    . obtain⟨p,hp,h⟩:=ae.1 h
      obtain⟨q,hq,h⟩:=ae.1 h
      split at h
      . rename_i hk _
        obtain⟨x,y,hx⟩:=AR rfl ho hl rfl
        simp only at hx
        subst hx
        exact adE ho hp hq h hk
      . cases h
    . cases h
  . rename_i y hy
    obtain⟨ce,ca,cts⟩:=c
    simp only at hy
    subst hy
    split at h
    . split at h
      . rename_i hb
        exact abc hΦ ho (ay hb) h
      . cases h
    . obtain⟨a,_,h⟩:=ae.1 h
      split at h
      . exact YR hΦ ho h
      . cases h
    . cases h
  . cases h
 case h_30 ho=>split at h;exact UR hT (.inr ho) h;cases h
 case h_31=>cases h
theorem aaI{v:CV S}{k:Bool->Option γ}{δ:Type}{j:Bool->Option δ}{f:δ->Option γ}(h:∀b,k b=(j b).bind f):ifB v k=(ifB v j).bind f:=by
 unfold ifB;split
 . exact h _
 . split<;>exact h _
 . rfl
theorem bind_eq{α β:Type}{x:Option α}{f g:α->Option β}(h:∀a,f a=g a):x.bind f=x.bind g:=by cases x;rfl;exact h _
theorem abW{op:UnOp}{v:CV S}:unK op v k=(unK op v some).bind k:=by
 unfold unK;(repeat' (first|rfl|(simp only[aG,aa,aQ])|(refine bind_eq fun _=>?_)|split))
theorem SV{f:TypeId×Nat×Nat}{v:CV S}:Fo f v k=(Fo f v some).bind k:=by
 unfold Fo;(repeat' (first|rfl|(simp only[aG,aa,aQ])|(refine bind_eq fun _=>?_)|split))
theorem VO{s d:TypeId}{v:CV S}:Nl tt s d v ob k=(Nl tt s d v ob some).bind k:=by
 unfold Nl;(repeat' (first|rfl|(simp only[aG,aa,aQ])|(refine bind_eq fun _=>?_)|split))
theorem Yj{t:TypeId}{v:CV S}:We tt t v ob k=(We tt t v ob some).bind k:=by
 unfold We;(repeat' (first|rfl|(simp only[aG,aa,aQ])|(refine bind_eq fun _=>?_)|split))
theorem Ql{t:TypeId}{v w:CV S}:Dm tt fa t v w ob ct k=(Dm tt fa t v w ob ct some).bind k:=by
 unfold Dm;(repeat' (first|rfl|(simp only[aG,aa,aQ])|(refine bind_eq fun _=>?_)|split))
theorem OD{t tx:TypeId}{v w:CV S}:z8 tb tt t tx v w ob ct k=(z8 tb tt t tx v w ob ct some).bind k:=by
 unfold z8;(repeat' (first|rfl|(simp only[aG,aa,aQ])|(refine bind_eq fun _=>?_)|split))
theorem Mo{t:TypeId}{v:CV S}{a b c:Option Int}:Fx tt t v a b c ob ct k=(Fx tt t v a b c ob ct some).bind k:=by
 unfold Fx;(repeat' (first|rfl|(simp only[aG,aa,aQ])|(refine bind_eq fun _=>?_)|split))
theorem SJ{t:TypeId}{v:CV S}:HZ tb tt t v ob k=(HZ tb tt t v ob some).bind k:=by
 unfold HZ;(repeat' (first|rfl|(simp only[aG,aa,aQ])|(refine bind_eq fun _=>?_)|split))
theorem OC{t:TypeId}{q:Nat}{d:Co}{l:List (T S d)}{o off n:Nat}{i j:Int}:z7 tt t q d l o off n i j ob ct k=(z7 tt t q d l o off n i j ob ct some).bind k:=by
 unfold z7;(repeat' (first|rfl|(simp only[aG,aa,aQ])|(refine bind_eq fun _=>?_)|split))
theorem RQ{t:TypeId}{o off:Nat}{lo hi mx:Option Int}:DM tt t o off lo hi mx ob k=(DM tt t o off lo hi mx ob some).bind k:=by
 unfold DM;(repeat' (first|rfl|(simp only[aG,aa,aQ])|(refine bind_eq fun _=>?_)|split))
theorem Wz{t:TypeId}{v:CV S}{a b c:Option Int}:N1 tt t v a b c ob ct k=(N1 tt t v a b c ob ct some).bind k:=by
 unfold N1;split
 . (repeat' (first|rfl|(simp only[aG,aa,aQ])|(refine bind_eq fun _=>?_)|split))
 . exact Mo
theorem RR{t:TypeId}{o off:Nat}{a b c:Option Int}:DN tt t o off a b c k=(DN tt t o off a b c some).bind k:=by
 unfold DN;(repeat' (first|rfl|(simp only[aG,aa,aQ])|(refine bind_eq fun _=>?_)|split))
theorem VQ{t:TypeId}{v w:CV S}:Nm tt t v w ob k=(Nm tt t v w ob some).bind k:=by
 unfold Nm OX;(repeat' (first|rfl|(simp only[aG,aa,aQ])|(refine bind_eq fun _=>?_)|split))
theorem S6{t:TypeId}{y:Operand}{v:CV S}{i:Int}:Ih tt t y v i ob k=(Ih tt t y v i ob some).bind k:=by
 unfold Ih;(repeat' (first|rfl|(simp only[aG,aa,aQ])|(refine bind_eq fun _=>?_)|split))
theorem Wi{t:TypeId}{v:CV S}:NM tb tt t v ob k=(NM tb tt t v ob some).bind k:=by
 unfold NM DA;(repeat' (first|rfl|(simp only[aG,aa,aQ])|(refine bind_eq fun _=>?_)|split))
theorem TL{t:TypeId}{p:CV S}{a:AV S}:IU tb tt t p a ob k=(IU tb tt t p a ob some).bind k:=by
 unfold IU;(repeat' (first|rfl|(simp only[aG,aa,aQ])|(refine bind_eq fun _=>?_)|split))
theorem YG{op:BinOp}{kv kw:IntKind}{x z:Int}{y:Operand}{k:CV S->Option γ}{δ:Type}{j:CV S->Option δ}{f:δ->Option γ}(h:∀v,k v=(j v).bind f):Wt op kv kw x z y k=(Wt op kv kw x z y j).bind f:=by
 unfold Wt;simp only[h];(repeat' (first|rfl|(simp only[aG,aa,aQ])|(refine bind_eq fun _=>?_)|split))
theorem Um{op:BinOp}{t:TypeId}{a b:AV S}{k:CV S->Option γ}{δ:Type}{j:CV S->Option δ}{f:δ->Option γ}(h:∀v,k v=(j v).bind f):eqK tt op t a b k=(eqK tt op t a b j).bind f:=by
 unfold eqK yx;simp only[h];(repeat' (first|rfl|(simp only[aG,aa,aQ])|(refine bind_eq fun _=>?_)|split))
theorem XI{op:BinOp}{t:TypeId}{y:Operand}{a b:AV S}{k:CV S->Option γ}{δ:Type}{j:CV S->Option δ}{f:δ->Option γ}(h:∀v,k v=(j v).bind f):VG tt op t y a b k=(VG tt op t y a b j).bind f:=by
 unfold VG;split
 . split
   . exact YG h
   . exact Um h
 . exact Um h
theorem Qk{δ:Type}{f:δ->Option γ}:∀{os:List Out} {y:qX S os} {k:(o:Out)->HT S o.Bl->Option γ} {j:(o:Out)->HT S o.Bl->Option δ},(∀o z,k o z=(j o z).bind f)->aac os y k=(aac os y j).bind f
 |[],_,_,_,_=>rfl
 |[o],y,_,_,h=>h o y
 |o::_::_,Sum.inl z,_,_,h=>h o z
 |_::p::os,Sum.inr _,_,_,h=>Qk (os:=p::os) h
theorem yi{f:FuncId}{args:List (AV S)}:∀{Φ:List (cU S)},zh tb f args ob ct k Φ=(zh tb f args ob ct some Φ).bind k
 |[]=>rfl
 |c::cs=>by
  simp only[zh];split
  . exact yi
  . split
    . exact yi
    . rw[aG];refine bind_eq fun y=>Qk fun o z=>?_
      split
      . rfl
      . rfl
theorem Wj{t:TypeId}{v:CV S}{key:AV S}{c:Bool}:NN tb tt t v key c ob k=(NN tb tt t v key c ob some).bind k:=by
 unfold NN;(repeat' (first|rfl|(simp only[aG,aa,aQ])|(refine bind_eq fun _=>?_)|split))
theorem YY{t:TypeId}{v:CV S}{key w:AV S}:WD tb tt t v key w ob k=(WD tb tt t v key w ob some).bind k:=by
 unfold WD;(repeat' (first|rfl|(simp only[aG,aa,aQ])|(refine bind_eq fun _=>?_)|split))
theorem XR{t:TypeId}{v:CV S}{key:AV S}:VV tb tt t v key ob k=(VV tb tt t v key ob some).bind k:=by
 unfold VV;(repeat' (first|rfl|(simp only[aG,aa,aQ])|(refine bind_eq fun _=>?_)|split))
theorem SY{t:TypeId}{v:CV S}{key:AV S}{c:Bool}:H8 tb tt t v key c ob k=(H8 tb tt t v key c ob some).bind k:=by
 unfold H8;(repeat' (first|rfl|(simp only[aG,aa,aQ])|(refine bind_eq fun _=>?_)|split))
theorem Wn{t:TypeId}{v:CV S}{key:AV S}:NS tb tt t v key ob ct k=(NS tb tt t v key ob ct some).bind k:=by
 unfold NS;(repeat' (first|rfl|(simp only[aG,aa,aQ])|(refine bind_eq fun _=>?_)|split))
theorem Tu{t:TypeId}{v:CV S}:Iv tb tt t v ob ct k=(Iv tb tt t v ob ct some).bind k:=by
 unfold Iv;(repeat' (first|rfl|(simp only[aG,aa,aQ])|(refine bind_eq fun _=>?_)|split))
theorem SP{v:CV S}:H2 tb tt v ob k=(H2 tb tt v ob some).bind k:=by
 unfold H2;(repeat' (first|rfl|(simp only[aG,aa,aQ])|(refine bind_eq fun _=>?_)|split))
theorem XW{t:TypeId}{v s:CV S}{w:AV S}:V0 tb tt t v s w ob k=(V0 tb tt t v s w ob some).bind k:=by
 unfold V0;(repeat' (first|rfl|(simp only[aG,aa,aQ])|(refine bind_eq fun _=>?_)|split))
theorem SZ{t:TypeId}{v:CV S}{key:AV S}{c:Bool}:Ig tb tt t v key c ob ct k=(Ig tb tt t v key c ob ct some).bind k:=by
 unfold Ig;(repeat' (first|rfl|(simp only[aG,aa,aQ])|(refine bind_eq fun _=>?_)|split))
theorem V7{t:TypeId}{v w:CV S}{key:AV S}:Nx tb tt t v key w ob k=(Nx tb tt t v key w ob some).bind k:=by
 unfold Nx Uv;(repeat' (first|rfl|(simp only[aG,aa,aQ])|(refine bind_eq fun _=>?_)|split))
theorem NJ{t:TypeId}{v:CV S}{key w:AV S}:LF tb tt t v key w ob k=(LF tb tt t v key w ob some).bind k:=by
 unfold LF;(repeat' (first|rfl|(simp only[aG,aa,aQ])|(refine bind_eq fun _=>?_)|split))
theorem NG{q:Nat}{c:Co}{x:T S c}:∀{l:List (T S c×CV S)},LD tb q c x k l=(LD tb q c x some l).bind k
 |[]=>rfl
 |p::l=>by
  unfold LD;split
  . rfl
  . exact NG
theorem Ta{t:TypeId}{v:CV S}{key:AV S}{c:Bool}:Ij tb tt t v key c ob k=(Ij tb tt t v key c ob some).bind k:=by
 unfold Ij;(repeat' (first|rfl|exact NG|(simp only[aG,aa,aQ])|(refine bind_eq fun _=>?_)|split))
theorem Gn:core tb tt Φ fa o xs ob ct k=(core tb tt Φ fa o xs ob ct some).bind k:=by
 unfold core;split
 case h_3=>
  split
  . exact aaI fun b=>by cases b<;>rfl
  . rfl
 case h_6=>
  split
  . exact XI fun v=>rfl
  . rfl
 case h_7=>split;exact abW;rfl
 case h_8=>split;exact VO;rfl
 case h_9=>
  split
  . rw[aG]
    refine bind_eq fun ti=>?_
    split
    . rw[aG];exact bind_eq fun f=>SV
    . rfl
  . rfl
 case h_15=>split;exact Wi;rfl
 case h_16=>split;exact TL;rfl
 case h_17=>split;(rw[aG];exact bind_eq fun i=>S6);rfl
 case h_19=>split;(simp only[aG];exact bind_eq fun a=>bind_eq fun b=>bind_eq fun c=>by split;split;exact RQ;exact RR;split;exact Wz;exact Mo);rfl
 case h_22=>
  split
  . split
    . exact Wj
    . split
      . exact SZ
      . exact SY
    . exact Ta
  . rfl
 case h_23=>split;exact Wn;rfl
 case h_24=>split;exact XW;rfl
 case h_25=>
  split
  . split
    . exact YY
    . split
      . exact V7
      . rfl
    . exact NJ
  . rfl
 case h_26=>split;exact Tu;rfl
 case h_27=>split;exact SP;rfl
 case h_29=>
  split
  . split
    . split;exact Yj;rfl
    . split
      . split
        . split;exact OC;exact Ql
        . exact OD
      . rfl
    . split;exact VQ;rfl
    . split;exact SJ;rfl
    . split;exact XR;rfl
    . split
      . rw[aG];exact bind_eq fun _=>rfl
      . rfl
    . (repeat' (first|rfl|(simp only[aG,aa,aQ])|(refine bind_eq fun _=>?_)|split))
    . (repeat' (first|rfl|(simp only[aG,aa,aQ])|(refine bind_eq fun _=>?_)|split))
    . rfl
  . split
    . split;exact yi;rfl
    . rw[aG]
      refine bind_eq fun a=>?_
      split
      . exact yi
      . rfl
    . rfl
  . rfl
 case h_30=>split;exact NJ;rfl
 all_goals (repeat' (first|rfl|(simp only[aG,aa,aQ])|(refine bind_eq fun _=>?_)|split))
end E
end
section
open Go.RowKit G
namespace E
variable {S:Nat->Type}{tb:Tb S}{K:ju tb}{P:Program}{tt:TypeId->Option (TI S)}{g:GG S}{m:Mem}
structure Cx where
 d:List Deferred
 X:List cp
structure Inv(K:ju tb)(n:Nat)(ds:Cx)(B:List Nat)(m0:Mem)(rb:Nat->Option Gh)(σ:AS S)(g:GG S)(a:Act)(m:Mem)(L:List cp):Prop where
 size:a.tmps.size=n
 defers:a.defers=ds.d
 at_:∀t cL v,look (σ.fb+t) σ.tm=some (cL,v)->g.vv cL=some (a.eval (.tmp t))
 tm:∀s cL v,look s σ.tm=some (cL,v)->∃u,g.vv cL=some u/\cn K g m v u
 ob:lv K g m σ.ob L
 st:St B m0 m (L++ds.X)
 fresh:∀i,σ.ct<=i->g.bk i=none/\g.vv i=none/\g.oo i=none
 rt:K.B m0/\∀(j q:Nat),σ.rt[j]?=some q->∃h,rb j=some h/\g.bk q=some h
theorem Lg{v:Value}{c:CV S}(h:J1 v=some c):b7 K g m c [v]:=by
 unfold J1 at h;split at h<;>first|(cases h;done)|skip
 . split at h
   . rename_i n hn _;cases h;simp only[b7];rw[AU,hn]
   . cases h
 all_goals (cases h;simp only[b7])
theorem Cr:∀{vs:List Value} {cs:List (CV S)},Af vs=some cs->eb K g m cs vs
 |[],cs,h=>by simp only[Af,al]at h;subst h;rfl
 |v::vs,cs,h=>by
  simp only[Af]at h;obtain⟨x,hx,h⟩:=ae.1 h;obtain⟨r,hr,rfl⟩:=af.1 h;exact⟨[v],vs,rfl,Lg hx,Cr hr⟩
theorem ac0{v w:Value}(h:eqV v w=true):v=w:=by
 unfold eqV at h;split at h<;>first|rfl|(cases h;done)|skip
 . simp only[aq,au]at h;obtain⟨rfl,rfl⟩:=h;rfl
 . simp only[beq_iff_eq]at h;subst h;rfl
 . rename_i s s';simp only[au]at h;obtain⟨⟨l⟩⟩:=s;obtain⟨⟨l'⟩⟩:=s';simp only at h;subst h;rfl
theorem Uq:∀{vs ws:List Value},VZ vs ws=true->vs=ws
 |[],[],_=>rfl
 |[],_::_,h=>by simp[VZ]at h
 |_::_,[],h=>by simp[VZ]at h
 |v::vs,w::ws,h=>by
  simp only[VZ]at h;split at h
  . rename_i hv;rw[ac0 hv,Uq h]
  . cases h
theorem Lf(hT:gj P K tt){t:TypeId}{v:Value}{x:AV S}(h:OV tt t v=some x):cn K g m x v:=by
 unfold OV at h;split at h
 . rename_i cs;split at h
   . rename_i i hi;split at h
     . rename_i he;cases h;simp only[cn];refine⟨cs.toList,by simp,?_⟩;rw[<- Uq he];exact ui (hT.ty t i hi).cst
     . obtain⟨l,hl,rfl⟩:=af.1 h;simp only[cn];exact⟨cs.toList,by simp,Cr hl⟩
   . obtain⟨l,hl,rfl⟩:=af.1 h;simp only[cn];exact⟨cs.toList,by simp,Cr hl⟩
 . rename_i vs;split at h
   . rename_i hv;cases h;simp only[AV.uI,cn,fO];exact⟨[],by rw[<- hv],rfl⟩
   . cases h
 . obtain⟨l,hl,rfl⟩:=af.1 h;simp only[cn];exact Lg hl
section
variable {n:Nat}{ds:Cx}{B:List Nat}{m0:Mem}{rb:Nat->Option Gh}{σ:AS S}{a:Act}{L:List cp}
theorem Inv.slot(hI:Inv K n ds B m0 rb σ g a m L){t:Tmp}{cL:Nat}{v:AV S}(h:σ.get t=some (cL,v)):g.vv cL=some (a.eval (.tmp t))/\cn K g m v (a.eval (.tmp t)):=by
 have h1:=hI.at_ _ _ _ h;obtain⟨u,h2,h3⟩:=hI.tm _ _ _ h;rw[h1]at h2;cases h2;exact⟨h1,h3⟩
theorem LV(hT:gj P K tt)(hI:Inv K n ds B m0 rb σ g a m L){t:TypeId}{x:Operand}{v:AV S}(h:zu tt σ t x=some v):cn K g m v (a.eval x):=by
 cases x with
 |tmp u=>
  simp only[zu]at h
  obtain⟨⟨cL,v'⟩,hp,rfl⟩:=af.1 h
  exact(hI.slot hp).2
 |const c=>exact Lf hT h
 |func f=>
  simp only[zu,al]at h
  subst h
  simp only[cn,b7]
  exact⟨[],[],rfl,by simp only[qk],by simp only[qk]⟩
 |global _=>simp[zu]at h
theorem PB(hT:gj P K tt)(hI:Inv K n ds B m0 rb σ g a m L):∀{l:List Operand} {ts:List TypeId} {xs:List (AV S)},Av tt σ ts l=some xs->zb K g m a l xs/\xs.length=l.length
 |[],ts,xs,h=>by simp only[Av,al]at h;subst h;exact⟨rfl,rfl⟩
 |x::l,[],xs,h=>by
  simp only[Av]at h;obtain⟨v,hv,h⟩:=ae.1 h;obtain⟨r,hr,rfl⟩:=af.1 h;obtain⟨k1,k2⟩:=PB hT hI hr;exact⟨⟨v,r,rfl,LV hT hI hv,k1⟩,by simp[k2]⟩
 |x::l,t::ts,xs,h=>by
  simp only[Av]at h;obtain⟨v,hv,h⟩:=ae.1 h;obtain⟨r,hr,rfl⟩:=af.1 h;obtain⟨k1,k2⟩:=PB hT hI hr;exact⟨⟨v,r,rfl,LV hT hI hv,k1⟩,by simp[k2]⟩
theorem Bk{cL:Nat}{b:Bool}:∀{l:List (Nat×Nat×AV S)} {s:Nat},look s (RM cL b l)=(look s l).map fun x=>if x.1=cL then(x.1,.one (.tt b))else x
 |[],s=>rfl
 |(t,v,x)::l,s=>by
  unfold RM;split
  . rename_i e;obtain rfl:=ah e;rw[cc,cc];by_cases h:t=s
    . rw[if_pos h,if_pos h];simp
    . rw[if_neg h,if_neg h];exact Bk
  . rename_i e;have e:v≠cL:=Nat.ne_of_beq_eq_false e;rw[cc,cc];by_cases h:t=s
    . rw[if_pos h,if_pos h];simp[e]
    . rw[if_neg h,if_neg h];exact Bk
theorem zA(hI:Inv K n ds B m0 rb σ g a m L){cL:Nat}{b:Bool}(h:g.vv cL=some (.bool b)):Inv K n ds B m0 rb (σ.qW cL b) g a m L:=by
 have key:∀s vid' v,look s (σ.qW cL b).tm=some (vid',v)->∃v0,look s σ.tm=some (vid',v0)/\(v=v0\/vid'=cL/\v=.one (.tt b)):=fun s vid' v hs=>by
  unfold AS.qW at hs;rw[Bk]at hs;obtain⟨⟨vid0,v0⟩,h0,h1⟩:=af.1 hs;by_cases e:vid0=cL
  . rw[if_pos e]at h1;cases h1;exact⟨v0,h0,.inr ⟨e,rfl⟩⟩
  . rw[if_neg e]at h1;cases h1;exact⟨_,h0,.inl rfl⟩
 refine⟨hI.size,hI.defers,fun t vid' v hs=>?_,fun s vid' v hs=>?_,hI.ob,hI.st,hI.fresh,hI.rt⟩
 . obtain⟨v0,h0,_⟩:=key _ _ _ hs;exact hI.at_ _ _ _ h0
 . obtain⟨v0,h0,h1⟩:=key _ _ _ hs;rcases h1 with rfl|⟨rfl,rfl⟩
   . exact hI.tm _ _ _ h0
   . exact⟨_,h,by simp only[cn,b7]⟩
theorem Yg(hI:Inv K n ds B m0 rb σ g a m L)(t:Tmp):Kn n a [(t,a.eval (.tmp t))] ds.d:=⟨hI.size,hI.defers,Ke.cons rfl (Ke.nil a)⟩
theorem Wa{γ:Type}{ops:Array Oper}{o:Oper}{go:Bool->AS S->Option γ}{z:γ}(hI:Inv K n ds B m0 rb σ g a m L)(h:Cy ops o.guard σ go=some z):
 ∃run σ',go run σ'=some z/\Inv K n ds B m0 rb σ' g a m L/\Region.wanted o (yielded ops a.tmps)=run:=by
 cases hg:o.guard with
 |none=>rw[hg]at h;exact⟨true,σ,h,hI,by simp[Region.wanted,hg]⟩
 |some jb=>
  obtain⟨j,b⟩:=jb
  rw[hg]at h
  simp only[Cy]at h
  split at h
  . rename_i cL v hv
    obtain⟨t,ht,hv⟩:=ae.1 hv
    obtain⟨h1,h2⟩:=hI.slot hv
    simp only[cn]at h2
    have yes:∀c,a.eval (.tmp t)=.bool c->(c == b)=true->Region.wanted o (yielded ops a.tmps)=true:=fun c hc hcb=>
     I0 (Yg hI t) (by simp only[Cz,hg,ht,lk,beq_self_eq_true,Nat.beq_refl,hc];exact hcb)
    have no:∀c,a.eval (.tmp t)=.bool c->(c !=b)=true->Region.wanted o (yielded ops a.tmps)=false:=fun c hc hcb=>
     xa (Yg hI t) (by simp only[Bc,hg,ht,lk,Nat.beq_refl,hc];exact hcb)
    split at h
    . rename_i c _
      simp only[b7,bw,and_true]at h2
      refine⟨_,σ,h,hI,?_⟩
      cases hcb:c == b with
      |true=>exact yes c h2 hcb
      |false=>exact no c h2 (by simp[bne,hcb])
    . rename_i c p d hcp _
      simp only[b7,bw,and_true]at h2
      split at h
      . rename_i hp
        have hc:=hcp.2 hp
        subst hc
        refine⟨_,_,h,zA hI (by rw[h1,h2]),?_⟩
        cases b with
        |true=>exact yes _ h2 rfl
        |false=>exact no _ h2 rfl
      . rename_i hp
        have hc:c=false:=by cases hc:c with|false=>rfl|true=>exact absurd (hcp.1 hc) hp
        subst hc
        refine⟨_,_,h,zA hI (by rw[h1,h2]),?_⟩
        cases b with
        |true=>exact no _ h2 rfl
        |false=>exact yes _ h2 rfl
    . cases h
  . rename_i cL hv
    obtain⟨t,ht,hv⟩:=ae.1 hv
    obtain⟨h1,h2⟩:=hI.slot hv
    simp only[cn,fO]at h2
    obtain⟨l,h2,rfl⟩:=h2
    refine⟨_,σ,h,hI,xa (Yg hI t) ?_⟩
    simp only[Bc,hg,ht,lk,Nat.beq_refl,h2]
  . cases h
theorem qb{α:Type}:∀{l:List (Nat×α)} {s t:Nat},t≠s->look t (drop1 s l)=look t l
 |[],s,t,_=>rfl
 |(u,x)::l,s,t,h=>by
  unfold drop1;split
  . rename_i e;obtain rfl:=ah e;rw[cc,if_neg (Ne.symm h)]
  . rw[cc,cc,qb h]
theorem Y0(hI:Inv K n ds B m0 rb σ g a m L){ob':List (Nat×Nat×AO S)}{L':List cp}{g':GG S}{m':Mem}{d:Option Tmp}{mv:Option Nat}{v:AV S}{u:Value}(hd:∀t,d=some t->t<n)(hge:GE g g')(hle:Le m m')
 (hob:lv K g' m' ob' L') (hst:St B m0 m' (L'++ds.X)) (hv:cn K g' m' v u) (hvid:g'.vv (mv.getD σ.ct)=some u) (hf:∀i,σ.ct+64<=i->g'.bk i=none/\g'.vv i=none/\g'.oo i=none):
 Inv K n ds B m0 rb {σ.put d mv v with ob:=ob',ct:=σ.ct+64} g' (a.put d u) m' L':=by
 have old:∀s cL x,look s σ.tm=some (cL,x)->∃y,g'.vv cL=some y/\cn K g' m' x y:=fun s cL x hs=>by
  obtain⟨y,h1,h2⟩:=hI.tm _ _ _ hs;exact⟨y,hge.vv _ _ h1,h2.mono hge hle⟩
 have hrt:K.B m0/\∀(j q:Nat),σ.rt[j]?=some q->∃h,rb j=some h/\g'.bk q=some h:=⟨hI.rt.1,fun j q hj=>by
  obtain⟨h,h1,h2⟩:=hI.rt.2 j q hj;exact⟨h,h1,hge.bk _ _ h2⟩⟩
 cases d with
 |none=>exact⟨hI.size,hI.defers,fun t cL x hs=>hge.vv _ _ (hI.at_ t cL x hs),old,hob,hst,hf,hrt⟩
 |some d=>
  have hdn:=hd d rfl
  refine⟨by simp[Act.put,hI.size],hI.defers,fun t cL x hs=>?_,fun s cL x hs=>?_,hob,hst,hf,hrt⟩
  . have hs':look (σ.fb+t) ((σ.fb+d,mv.getD σ.ct,v)::drop1 (σ.fb+d) σ.tm)=some (cL,x):=hs
    rw[cc]at hs'
    by_cases e:σ.fb+d=σ.fb+t
    . rw[if_pos e]at hs'
      cases hs'
      have e:d=t:=Nat.add_left_cancel e
      subst e
      rw[D.qD (by rw[hI.size];exact hdn)]
      exact hvid
    . rw[if_neg e,qb (Ne.symm e)]at hs'
      rw[Act.eval_put (fun d' hd' e'=>by cases hd';cases e';exact e rfl)]
      exact hge.vv _ _ (hI.at_ _ _ _ hs')
  . have hs':look s ((σ.fb+d,mv.getD σ.ct,v)::drop1 (σ.fb+d) σ.tm)=some (cL,x):=hs
    rw[cc]at hs'
    by_cases e:σ.fb+d=s
    . rw[if_pos e]at hs'
      cases hs'
      exact⟨u,hvid,hv⟩
    . rw[if_neg e,qb (Ne.symm e)]at hs'
      exact old _ _ _ hs'
end
abbrev ZL(S:Nat->Type):=List ((Nat×Nat×AO S)×cp)
def zR(K:ju tb)(g:GG S)(m:Mem)(p:(Nat×Nat×AO S)×cp):Prop:=g.oo p.1.2.1=some (p.1.2.2,p.2)/\xo K g m p.1.1 p.1.2.2 p.2
theorem zt:∀{ob:List (Nat×Nat×AO S)} {L:List cp},lv K g m ob L->∃z:ZL S,z.map Prod.fst=ob/\z.map Prod.snd=L/\∀p∈z,zR K g m p
 |[],L,h=>⟨[],rfl,h.symm,fun p hp=>by cases hp⟩
 |x::ob,L,h=>by
  obtain⟨e,L',rfl,h1,h2,h3⟩:=h;obtain⟨z,rfl,rfl,k⟩:=zt h3;exact⟨(x,e)::z,rfl,rfl,fun p hp=>by
   rcases aZ.1 hp with rfl|hp
   . exact⟨h1,h2⟩
   . exact k p hp⟩
theorem ye:∀{z:ZL S},(∀p∈z,zR K g m p)->lv K g m (z.map Prod.fst) (z.map Prod.snd)
 |[],_=>rfl
 |p::z,h=>⟨p.2,_,rfl,(h p ax).1,(h p ax).2,ye fun q hq=>h q (aE _ hq)⟩
def zr(z:ZL S)(q:Nat):Option ((Nat×Nat×AO S)×cp):=z.find? fun p=>Nat.beq p.1.1 q
def jr(z:ZL S)(l:List Nat):ZL S:=l.filterMap (zr z)
theorem yk{q:Nat}:∀{z:ZL S},look q (z.map Prod.fst)=(zr z q).map (·.1.2)
 |[]=>rfl
 |((u,x),e)::z=>by
  simp only[aO,cc,zr,List.find?_cons];by_cases h:u=q
  . subst h;simp
  . rw[if_neg h,xc h];exact yk
theorem n9{q:Nat}{z:ZL S}{p:(Nat×Nat×AO S)×cp}(h:zr z q=some p):p∈z/\p.1.1=q:=
 ⟨List.mem_of_find?_eq_some h,ah (by have:=List.find?_some (p:=fun p:(Nat×Nat×AO S)×cp=>Nat.beq p.1.1 q) h;exact this)⟩
theorem wc{z:ZL S}:∀{l:List Nat},(jr z l).map Prod.fst=pick (z.map Prod.fst) l
 |[]=>rfl
 |q::l=>by
  simp only[jr,List.filterMap_cons,pick,yk]
  cases h:zr z q with
  |none=>exact wc
  |some p=>
   obtain⟨_,rfl⟩:=n9 h
   simp only[aO,bg]
   rw[<- wc];rfl
theorem GN{f:Nat->Bool}{q:Nat}(hq:f q=true):∀{z:ZL S},zr (z.filter fun p=>f p.1.1) q=zr z q
 |[]=>rfl
 |p::z=>by
  by_cases h:p.1.1=q
  . rw[List.filter_cons_of_pos (by rw[h];exact hq)];simp[zr,h]
  . have hb:Nat.beq p.1.1 q=false:=xc h;have ih:=GN hq (z:=z)
    cases hf:f p.1.1 with
    |true=>rw[List.filter_cons_of_pos (p:=fun p:(Nat×Nat×AO S)×cp=>f p.1.1) hf];simp only[zr,List.find?_cons,hb];exact ih
    |false=>rw[List.filter_cons_of_neg (p:=fun p:(Nat×Nat×AO S)×cp=>f p.1.1) (by simp[hf])];simp only[zr,List.find?_cons,hb]at ih ⊢; exact ih
theorem xX{f:Nat->Bool}{z:ZL S}:∀{l:List Nat},(∀q∈l,f q=true)->jr (z.filter fun p=>f p.1.1) l=jr z l
 |[],_=>rfl
 |q::l,h=>by
  have ih:=xX (z:=z) fun q hq=>h q (aE _ hq)
  simp only[jr,List.filterMap_cons,GN (h q ax)]at ih ⊢;rw[ih]
theorem we:∀{l:List Nat} {z:ZL S},l.Nodup->∃Y,List.Perm z (jr z l++Y)
 |[],z,_=>⟨z,List.Perm.refl _⟩
 |q::l,z,h=>by
  obtain⟨hq,hl⟩:=List.nodup_cons.1 h;have hf:∀r∈l,(!Nat.beq r q)=true:=fun r hr=>by
   rw[xc fun e=>hq (by rw[<- e];exact hr)];rfl
  obtain⟨Y,hY⟩:=we (z:=z.filter fun p=>!Nat.beq p.1.1 q) hl;rw[xX hf]at hY;have hz:List.Perm z (z.filter (fun p=>Nat.beq p.1.1 q)++z.filter fun p=>!Nat.beq p.1.1 q):=(List.filter_append_perm _ _).symm;simp only[jr,List.filterMap_cons]at hY ⊢
  cases hk:zr z q with
  |none=>exact⟨z.filter (fun p=>Nat.beq p.1.1 q)++Y,hz.trans ((bq _ hY).trans (by
   rw[<- az,<- az];exact List.Perm.append_right _ aU))⟩
  |some p=>
   obtain⟨h1,h2⟩:=n9 hk
   have hm:p∈z.filter fun p=>Nat.beq p.1.1 q:=ba.2 ⟨h1,by rw[h2];exact Nat.beq_refl q⟩
   obtain⟨A,B,hAB⟩:=List.append_of_mem hm
   rw[hAB]at hz
   refine⟨A++B++Y,hz.trans (((List.perm_middle (l₁:=A) (l₂:=B) (a:=p)).append hY).trans ?_)⟩
   simp only[bD]
   refine List.Perm.cons p ?_
   rw[<- az,<- az]
   exact List.Perm.append_right _ aU
theorem Ct{rm:List Nat}:∀{ob:List (Nat×Nat×AO S)},gR rm ob=ob.filter fun x=>!has x.1 rm
 |[]=>rfl
 |(q,x)::l=>by
  unfold gR;split
  . rename_i h;rw[List.filter_cons_of_neg (by simp[h])];exact Ct
  . rename_i h;rw[List.filter_cons_of_pos (by simp[h]),Ct]
theorem GS{ob:List (Nat×Nat×AO S)}{L:List cp}{rd rm:List Nat}(h:lv K g m ob L)(hn:(rd++rm).Nodup):∃Lr Lm Lz R Y,lv K g m (pick ob rd) Lr/\lv K g m (pick ob rm) Lm/\lv K g m (gR rm ob) Lz/\List.Perm L ((Lr++Lm)++R)/\List.Perm (Lr++R) (Lz++Y):=by
 obtain⟨z,rfl,rfl,hz⟩:=zt h;obtain⟨n1,n2,n3⟩:=List.nodup_append.1 hn;have hp:List.Perm z (z.filter (fun p=>has p.1.1 rm)++z.filter fun p=>!has p.1.1 rm):=(List.filter_append_perm _ _).symm;obtain⟨Y1,hY1⟩:=we (z:=z.filter fun p=>has p.1.1 rm) n2;obtain⟨Y2,hY2⟩:=we (z:=z.filter fun p=>!has p.1.1 rm) n1;rw[xX (f:=fun q=>has q rm) fun q hq=>sc.2 hq]at hY1;rw[xX (f:=fun q=>!has q rm) fun q hq=>by
  cases hh:has q rm with
  |false=>rfl
  |true=>exact absurd rfl (n3 q hq q (sc.1 hh))]at hY2
 have mem:∀l,∀p∈jr z l,zR K g m p:=fun l p hp=>by
  obtain⟨q,_,hq⟩:=List.mem_filterMap.1 hp;exact hz p (n9 hq).1
 refine⟨(jr z rd).map Prod.snd,(jr z rm).map Prod.snd,(z.filter fun p=>!has p.1.1 rm).map Prod.snd,(Y1++Y2).map Prod.snd,Y1.map Prod.snd,?_,?_,?_,?_,?_⟩
 . rw[<- wc];exact ye (mem rd)
 . rw[<- wc];exact ye (mem rm)
 . have:gR rm (z.map Prod.fst)=(z.filter fun p=>!has p.1.1 rm).map Prod.fst:=by
    rw[Ct,List.filter_map];rfl
   rw[this];exact ye fun p hp=>hz p (ba.1 hp).1
 . rw[<- aY,<- aY];refine List.Perm.map _ (hp.trans ((hY1.append hY2).trans ?_));have e1:List.Perm (jr z rm++Y1++(jr z rd++Y2)) (jr z rm++jr z rd++(Y1++Y2)):=by
    rw[az,az];refine bq _ ?_;rw[<- az,<- az];exact List.Perm.append_right _ aU
   exact e1.trans (List.Perm.append_right _ aU)
 . rw[<- aY,<- aY];refine List.Perm.map _ ?_;refine List.Perm.trans ?_ (List.Perm.append_right Y1 hY2.symm);rw[az];exact bq _ aU
theorem AX:∀{ob ob':List (Nat×Nat×AO S)} {L L':List cp},lv K g m ob L->lv K g m ob' L'->lv K g m (ob++ob') (L++L')
 |[],ob',L,L',h,h'=>by simp only[lv]at h;subst h;exact h'
 |x::ob,ob',L,L',h,h'=>by
  obtain⟨e,L1,rfl,h1,h2,h3⟩:=h;exact⟨e,L1++L',rfl,h1,h2,AX h3 h'⟩
theorem OA:∀{l:List (Nat×AO S)} {La:List cp} {v:Nat},Kq K g m l La->(∀i a e,l[i]?=some a->La[i]?=some e->g.oo (v+i)=some (a.2,e))->lv K g m (DU v l) La
 |[],La,v,h,_=>h
 |(q,a)::l,La,v,h,ho=>by
  obtain⟨e,L',rfl,h1,h2⟩:=h;exact⟨e,L',rfl,ho 0 (q,a) e rfl rfl,h1,OA h2 fun i b f hb hf=>by
   have:=ho (i+1) b f (by simpa using hb) (by simpa using hf);rw[<- this];congr 1;omega⟩
theorem Kr:∀{l:List (Nat×AO S)} {La:List cp},Kq K g m l La->La.length=l.length
 |[],La,h=>by simp only[Kq]at h;subst h;rfl
 |_::l,La,h=>by
  obtain⟨e,L',rfl,h1,h2⟩:=h;simp[Kr h2]
section
variable {n:Nat}{ds:Cx}{B:List Nat}{m0:Mem}{rb:Nat->Option Gh}{σ:AS S}{a:Act}{L:List cp}
def GG.JV(g:GG S)(g':GG S)(ct:Nat)(mv:Option Nat)(v:Value)(add:List (Nat×AO S))(La:List cp):GG S:=
 {bk:=g'.bk,vv:=fun i=>if i=ct/\mv=none then some v else g.vv i,
  oo:=fun i=>if ct+32<=i then(match add[i-(ct+32)]?,La[i-(ct+32)]? with|some a,some e=>some (a.2,e)|_,_=>g.oo i)else g.oo i}
theorem ZA{L Lr Lm La Lz R Y X:List cp}{m m':Mem}(h:St B m0 m (L++X))(p1:List.Perm L ((Lr++Lm)++R))(p2:List.Perm (Lr++R) (Lz++Y))(hS:St (bW (Lr++Lm)) m m' (Lr++La)):St B m0 m' ((La++Lz)++X):=by
 have h0:St B m0 m ((Lr++Lm)++(R++X)):=h.perm ((List.Perm.append_right X p1).trans (by rw[az]));have h1:St B m0 m' ((Lr++La)++(R++X)):=St.frame h0 hS;have h2:List.Perm ((Lr++La)++(R++X)) (((La++Lz)++X)++Y):=by
  have e1:List.Perm ((Lr++La)++(R++X)) (La++((Lr++R)++X)):=by
   refine(List.Perm.append_right _ aU).trans ?_;rw[az,az]
  refine e1.trans ?_;refine(bq La (List.Perm.append_right X p2)).trans ?_;rw[az,az,az];exact bq _ (bq _ aU)
 exact(h1.perm h2).qu
theorem PX(hI:Inv K n ds B m0 rb σ g a m L){d:Option Tmp}{mv:Option Nat}{r:sT S}{v:Value}{w':World}{Lr Lm Lz R Y:List cp}(hd:∀t,d=some t->t<n)(J4:r.add.length<=31)
 (hz:lv K g m (gR r.rm σ.ob) Lz) (p1:List.Perm L ((Lr++Lm)++R)) (p2:List.Perm (Lr++R) (Lz++Y)) (hD:I4 K g m σ.ct Lr Lm r v w') (hmv:∀cL,mv=some cL->g.vv cL=some v):
 ∃g' m' L',m'.w=w'/\GE g g'/\Le m m'/\Inv K n ds B m0 rb (σ.JV d mv r) g' (a.put d v) m' L':=by
 obtain⟨m',g',La,rfl,hS,hge,hvv,hoo,hbk,hA,hv⟩:=hD
 have hle:=hS.le
 have hfr:=hI.fresh
 have hlA:=Kr hA
 have ge1:GE g' (g.JV g' σ.ct mv v r.add La):=⟨fun _ _ h=>h,fun i x hx=>by
  rw[hvv]at hx;show(if _ then _ else _)=_;rw[if_neg fun⟨e,_⟩=>by subst e;rw[(hfr _ (Nat.le_refl _)).2.1]at hx;cases hx];exact hx,fun i x hx=>by
  rw[hoo]at hx;have:i<σ.ct:=Nat.lt_of_not_le fun h=>by rw[(hfr i h).2.2]at hx;cases hx
  show(if _ then _ else _)=_;rw[if_neg (by omega)];exact hx⟩
 have ge2:GE g (g.JV g' σ.ct mv v r.add La):=hge.trans ge1
 refine⟨g.JV g' σ.ct mv v r.add La,m',La++Lz,rfl,ge2,hle,?_⟩
 refine Y0 hI (ob':=DU (σ.ct+32) r.add++gR r.rm σ.ob) hd ge2 hle (AX (OA (hA.mono ge1 (Le.refl _)) fun i x e hx he=>?_) (hz.mono ge2 hle)) ?_ (hv.mono ge1 (Le.refl _)) ?_ fun i hi=>⟨?_,?_,?_⟩
 . show(if _ then _ else _)=_
   rw[if_pos (by omega),show σ.ct+32+i-(σ.ct+32)=i by omega,hx,he]
 . exact ZA hI.st p1 p2 hS
 . cases mv with
   |none=>show(if _ then _ else _)=_;rw[if_pos ⟨rfl,rfl⟩]
   |some cL=>exact ge2.vv _ _ (hmv cL rfl)
 . show g'.bk i=none
   refine aP fun hn=>?_
   have h1:=(hfr i (by omega)).1
   have:=hbk i (by rw[h1];exact hn)
   omega
 . show(if _ then _ else _)=_
   rw[if_neg (by omega)];exact(hfr i (by omega)).2.1
 . show(if _ then _ else _)=_
   rw[if_pos (by omega),List.getElem?_eq_none (by omega)]
   exact(hfr i (by omega)).2.2
theorem abK(hI:Inv K n ds B m0 rb σ g a m L){d:Option Tmp}(hd:∀t,d=some t->t<n):
 ∃g',GE g g'/\Inv K n ds B m0 rb {σ.put d none (AV.uI S)with ct:=σ.ct+64} g' (a.put d undef) m L:=by
 have ge2:GE g {g with vv:=fun i=>if i=σ.ct then some undef else g.vv i}:=⟨fun _ _ h=>h,fun i x hx=>by
  show(if _ then _ else _)=_;rw[if_neg fun e=>by subst e;rw[(hI.fresh _ (by omega)).2.1]at hx;cases hx];exact hx,fun _ _ h=>h⟩
 have hob:(σ.put d none (AV.uI S)).ob=σ.ob:=by cases d<;>rfl
 refine⟨_,ge2,?_⟩
 have:=Y0 hI (ob':=σ.ob) (mv:=none) (v:=AV.uI S) (u:=undef) hd ge2 (Le.refl m) (hI.ob.mono ge2 (Le.refl m)) hI.st (by simp only[AV.uI,cn,fO];exact⟨[],rfl,rfl⟩) (if_pos rfl) fun i hi=>⟨(hI.fresh i (by omega)).1,by show(if _ then _ else _)=_;rw[if_neg (by omega)];exact(hI.fresh i (by omega)).2.1,(hI.fresh i (by omega)).2.2⟩
 rw[<- hob]at this
 exact this
theorem bU.exact{o:Oper}{w:World}{c9:Value->World->Prop}{u:Value}(h:bU P o a w c9)(hr:(execOp a.eval o).run P w=.ok (.value u) w):c9 u w:=by
 unfold bU at h;rw[hr]at h;exact h
theorem Yx{o:Oper}{cL:Nat}{w:World}(hI:Inv K n ds B m0 rb σ g a m L)(hm:xn σ o.op=some cL):∃u,(execOp a.eval o).run P w=.ok (.value u) w/\g.vv cL=some u:=by
 unfold xn at hm;split at hm
 . rename_i t ho;obtain⟨⟨vid',v⟩,hs,rfl⟩:=af.1 hm;exact⟨a.eval (.tmp t),by simp[execOp,ho],(hI.slot hs).1⟩
 . rename_i t ho;obtain⟨⟨vid',v⟩,hs,rfl⟩:=af.1 hm;exact⟨a.eval (.tmp t),by simp[execOp,ho],(hI.slot hs).1⟩
 . cases hm
theorem abQ(hI:Inv K n ds B m0 rb σ g a m L){o:Oper}{xs:List (AV S)}{r:sT S}(hd:∀t,o.dst=some t->t<n)(hx:zb K g m a o.op.operands.toList xs)(hn:nI (r.rd++r.rm)=true)(hO:DT P K o xs σ.ob σ.ct r):
 bU P o a m.w fun v w'=>∃g' m' L',m'.w=w'/\GE g g'/\Le m m'/\Inv K n ds B m0 rb (σ.JV o.dst (xn σ o.op) r) g' (a.put o.dst v) m' L':=by
 obtain⟨Lr,Lm,Lz,R,Y,h1,h2,h3,p1,p2⟩:=GS hI.ob (qC hn)
 have hOw:Ow m (Lr++Lm):=(hI.st.ow.left.perm p1).left
 have key:=hO.did g a m Lr Lm (fun i hi _=>hI.fresh i hi) (K.Bm hI.rt.1 hI.st.le) hx h1 h2 hOw
 cases hm:xn σ o.op with
 |none=>exact key.mono fun v w' hD=>PX hI hd hO.J4 h3 p1 p2 hD (fun _ h=>by cases h)
 |some cL=>
  obtain⟨u,hr,hu⟩:=Yx (P:=P) (w:=m.w) hI hm
  have hD:=E.bU.exact key hr
  unfold bU
  rw[hr]
  exact PX hI hd hO.J4 h3 p1 p2 hD (fun _ h=>by cases h;exact hu)
def Qz(n:Nat)(o:Oper):Bool:=match o.dst with|some d=>Nat.ble (d+1) n|none=>true
theorem Gu{o:Oper}(h:Qz n o=true):∀t,o.dst=some t->t<n:=fun t ht=>by
 unfold Qz at h;rw[ht]at h;exact ay h
theorem aa8{fa:FA S}(hΨ:∀c∈fa.nd,qE P K c){sq:Bool}{o:Oper}{xs:List (AV S)}{fx:FuncId×List (AV S)}{ob:List (Nat×Nat×AO S)}{ct:Nat}{γ:Type}{k:sT S->Option γ}{z:γ}(h:aa7 fa sq o xs=some fx)(hk:vZ tb fx.1 fx.2 ob ct k fa.nd=some z):
 ∃rd rm:List Nat,(rd++rm).Nodup/\∀(g:GG S) (a:Act) (m:Mem) (Lr Lm:List cp),FR g ct->K.B m->zb K g m a o.op.operands.toList xs->lv K g m (pick ob rd) Lr->lv K g m (pick ob rm) Lm->Ow m (Lr++Lm)->
  bU P o a m.w fun v w'=>∃res,k res=some z/\res.rd=rd/\res.rm=rm/\res.add.length<=31/\I4 K g m ct Lr Lm res v w':=by
 unfold aa7 at h
 split at h
 case h_2=>cases h
 case h_1=>
 unfold aeU at h
 split at h
 case h_2=>cases h
 case h_1 c ho=>
 obtain⟨cal,ops,ts⟩:=c
 split at h
 case h_2=>cases h
 case h_1 y f first caps args hcal=>
 simp only at hcal
 subst hcal
 split at h
 case h_2=>cases h
 case h_1 hb=>
 cases h
 simp only[aq]at hb
 have hf:=ay hb.2
 have hox:o.op.operands.toList=y::ops.toList:=by rw[ho];simp[Op.operands,Call.operands]
 obtain⟨rd,rm,hnd,h4⟩:=DE hΨ hk
 refine⟨rd,rm,hnd,fun g a m Lr Lm hF hB ha hR hM hO=>?_⟩
 rw[hox]at ha
 obtain⟨v,vs,e,a1,a2⟩:=ha
 cases e
 simp only[cn,b7]at a1
 obtain⟨v1,v2,e1,a3,a4⟩:=a1
 have key:=h4 g m _ Lr Lm hF hB (wI (wI (yh a3) (Dn a2)) (yh a4)) hR hM hO
 unfold B9 at key
 rw[if_pos hf]at key
 obtain⟨h3,key⟩:=key
 have hrun:(execOp a.eval o).run P m.w=.ok (.enter f (v1++ops.toList.map a.eval++v2).toArray) m.w:=by
  unfold execOp;have e2:a.eval y=.func (.func f) v1.toArray v2.toArray:=by simpa using e1
  simp only[ho,resolve,e2,Deferred.ofValue,Sem.run_bind,Sem.run_pure,Result.andThen_ok,invoke];rw[h3];congr 2;apply Array.ext';simp
 unfold bU
 rw[hrun]
 exact Calls.mono key fun e w' ⟨v,res,hv,hr⟩=>⟨v,hv,res,hr⟩
theorem Gy(hT:gj P K tt){Φ:List (cU S)}(hΦ:∀c∈Φ,Sound P K c){fa:FA S}(hΨ:∀c∈fa.nd,qE P K c){sq:Bool}{ops:Array Oper}{γ:Type}{z:γ}{Q:Exit->Act->World->Prop}{rr:Option Nat}:∀{rest:List Oper} {i:Nat} {σ:AS S} {lg:Log} {k:AS S->Log->Option γ} {g:GG S} {a:Act} {m:Mem} {L:List cp},
 zk tb tt Φ fa sq ops rest i σ lg k=some z->rest.all (Qz n)=true->Inv K n ds B m0 rb σ g a m L->
 (∀σ' lg' g' a' m' L',k σ' lg'=some z->GE g g'->Le m m'->Inv K n ds B m0 rb σ' g' a' m' L'->Q .normal a' m'.w)->wpListIn (FW rr) 0 P ops Q rest a m.w
 |[],i,σ,lg,k,g,a,m,L,h,_,hI,hQ=>by
  simp only[zk]at h;exact hQ σ lg g a m L h (GE.refl g) (Le.refl m) hI
 |o::rest,i,σ,lg,k,g,a,m,L,h,hd,hI,hQ=>by
  simp only[List.all_cons,aq]at hd;simp only[zk]at h;obtain⟨run,σ1,h1,hI1,hw⟩:=Wa hI h;unfold wpListIn
  cases run with
  |false=>
   simp only at h1
   rw[if_neg (by rw[hw];simp)]
   obtain⟨g',hge,hI2⟩:=abK hI1 (Gu hd.1)
   exact⟨fun _ _=>trivial,Gy hT hΦ hΨ h1 hd.2 hI2 fun σ' lg' g2 a' m' L' hk h3 h4 h5=>hQ σ' lg' g2 a' m' L' hk (hge.trans h3) h4 h5⟩
  |true=>
   simp only at h1
   rw[if_pos hw]
   split at h1
   . rename_i xs hxs
     obtain⟨hx,hl⟩:=PB hT hI1 hxs
     split at h1
     . rename_i hnd
       rw[Gn]at h1
       obtain⟨r,hr,h2⟩:=ae.1 h1
       obtain⟨r',hr',hO⟩:=Ue hT hΦ hl hr
       cases hr'
       split at h2
       . rename_i hn
         refine(abQ hI1 (Gu hd.1) hx hn hO).wp fun v w' ⟨g',m',L',e,h3,h4,h5⟩=>?_
         subst e
         exact Gy hT hΦ hΨ h2 hd.2 h5 fun σ' lg' g2 a' m2 L2 hk h6 h7 h8=>hQ σ' lg' g2 a' m2 L2 hk (h3.trans h6) (h4.trans h7) h8
       . cases h2
     . rename_i fx hnd
       obtain⟨rd,rm,hn,hstep⟩:=aa8 hΨ hnd h1
       obtain⟨Lr,Lm,Lz,R,Y,q1,q2,q3,p1,p2⟩:=GS hI1.ob hn
       have hOw:Ow m (Lr++Lm):=(hI1.st.ow.left.perm p1).left
       refine(hstep g a m Lr Lm (fun i hi _=>hI1.fresh i hi) (K.Bm hI1.rt.1 hI1.st.le) hx q1 q2 hOw).wp fun v w' ⟨res,hk2,e1,e2,hfew,hD⟩=>?_
       subst e1;subst e2
       obtain⟨g',m',L',e,h3,h4,h5⟩:=PX hI1 (mv:=none) (Gu hd.1) hfew q3 p1 p2 hD (fun _ h=>by cases h)
       subst e
       exact Gy hT hΦ hΨ hk2 hd.2 h5 fun σ' lg' g2 a' m2 L2 hk h6 h7 h8=>hQ σ' lg' g2 a' m2 L2 hk (h3.trans h6) (h4.trans h7) h8
   . cases h1
end
end E
end
section
open Go.RowKit G
namespace E
variable {S:Nat->Type}{tb:Tb S}{K:ju tb}{g:GG S}{m:Mem}
section
variable {n:Nat}{ds:Cx}{B:List Nat}{m0:Mem}{rb:Nat->Option Gh}{σ σ1:AS S}{a:Act}{L:List cp}
theorem xN{q:Nat}{ver:Nat}{ao:AO S}{X:List cp}(hob:lv K g m σ.ob L)(hl:look q σ.ob=some (ver,ao)):∃e L0 R,xo K g m q ao e/\List.Perm L (e::(L0++R))/\lv K g m (gR [q] σ.ob) L0:=by
 obtain⟨z,hz1,hz2,hz3⟩:=zt hob;rw[<- hz1,yk]at hl;obtain⟨p,hp1,hp2⟩:=af.1 hl;obtain⟨hp3,hp4⟩:=n9 hp1;have hp5:=(hz3 p hp3).2;rw[hp2,hp4]at hp5;have hperm:List.Perm z (z.filter (fun p=>has p.1.1 [q])++z.filter fun p=>!has p.1.1 [q]):=(List.filter_append_perm _ _).symm;have hm:p∈z.filter fun p=>has p.1.1 [q]:=ba.2 ⟨hp3,by rw[hp4];exact sc.2 (by simp)⟩
 obtain⟨A,C,hAC⟩:=List.append_of_mem hm;rw[hAC]at hperm;refine⟨p.2,(z.filter fun p=>!has p.1.1 [q]).map Prod.snd,(A++C).map Prod.snd,hp5,?_,?_⟩
 . rw[<- hz2,<- aY,<- aO (f:=Prod.snd)];refine List.Perm.map _ (hperm.trans ?_);refine((List.perm_middle (l₁:=A) (l₂:=C) (a:=p)).append_right _).trans ?_;exact List.Perm.cons p aU
 . have:gR [q] (z.map Prod.fst)=(z.filter fun p=>!has p.1.1 [q]).map Prod.fst:=by
    rw[Ct,List.filter_map];rfl
   rw[<- hz1,this];exact ye fun p hp=>hz3 p (ba.1 hp).1
theorem Md(hI:Inv K n ds B m0 rb σ g a m L)(x:Gh):∃g1,GE g g1/\g1.bk (σ.ct+1)=some x/\Inv K n ds B m0 rb {σ with ct:=σ.ct+64} g1 a m L:=by
 let g1:GG S:={bk:=fun i=>if i=σ.ct+1 then some x else g.bk i,vv:=g.vv,oo:=g.oo};have ge:GE g g1:=⟨fun i y hy=>by
  show(if i=σ.ct+1 then some x else g.bk i)=_;rw[if_neg fun e=>by rw[e,(hI.fresh _ (by omega)).1]at hy;cases hy];exact hy,fun _ _ h=>h,fun _ _ h=>h⟩
 refine⟨g1,ge,if_pos rfl,hI.size,hI.defers,hI.at_,fun s cL v h=>(let⟨u,k1,k2⟩:=hI.tm s cL v h;⟨u,k1,k2.mono ge (Le.refl m)⟩),hI.ob.mono ge (Le.refl m),hI.st,fun i hi=>⟨?_,(hI.fresh i (by simp only at hi;omega)).2.1,(hI.fresh i (by simp only at hi;omega)).2.2⟩,⟨hI.rt.1,fun j q hj=>?_⟩⟩
 . simp only at hi;show(if i=σ.ct+1 then some x else g.bk i)=_;rw[if_neg (by omega)];exact(hI.fresh i (by omega)).1
 . obtain⟨h,k1,k2⟩:=hI.rt.2 j q hj;exact⟨h,k1,ge.bk _ _ k2⟩
theorem Cc(hI:Inv K n ds B m0 rb σ g a m L){q:Nat}{ao:AO S}{e:cp}(ho:xo K g m q ao e)(hst:St B m0 m ((e::L)++ds.X)):∃g1,GE g g1/\Inv K n ds B m0 rb (Qh σ q ao) g1 a m (e::L):=by
 let g1:GG S:={g with oo:=fun i=>if i=σ.ct+32 then some (ao,e)else g.oo i};have ge:GE g g1:=⟨fun _ _ h=>h,fun _ _ h=>h,fun i y hy=>by
  show(if i=σ.ct+32 then some (ao,e)else g.oo i)=_;rw[if_neg fun e'=>by rw[e',(hI.fresh _ (by omega)).2.2]at hy;cases hy];exact hy⟩
 refine⟨g1,ge,hI.size,hI.defers,hI.at_,fun s cL v h=>(let⟨u,k1,k2⟩:=hI.tm s cL v h;⟨u,k1,k2.mono ge (Le.refl m)⟩),⟨e,L,rfl,if_pos rfl,ho.mono ge (Le.refl m),hI.ob.mono ge (Le.refl m)⟩,hst,fun i hi=>⟨?_,?_,?_⟩,hI.rt⟩
 . have hi:σ.ct+64<=i:=hi;exact(hI.fresh i (by omega)).1
 . have hi:σ.ct+64<=i:=hi;exact(hI.fresh i (by omega)).2.1
 . have hi:σ.ct+64<=i:=hi;show(if i=σ.ct+32 then some (ao,e)else g.oo i)=_;rw[if_neg (by omega)];exact(hI.fresh i (by omega)).2.2
theorem RT(hI:Inv K n ds B m0 rb σ g a m L){t cL:Nat}{v0 v:AV S}(hs:look t σ.tm=some (cL,v0))(hv:∀u,cn K g m v0 u->cn K g m v u):Inv K n ds B m0 rb {σ with tm:=(t,cL,v)::drop1 t σ.tm,ct:=σ.ct+64} g a m L:=by
 refine⟨hI.size,hI.defers,fun t' vid' v' hl=>?_,fun s vid' v' hl=>?_,hI.ob,hI.st,fun i hi=>hI.fresh i (by simp only at hi;omega),hI.rt⟩
 . simp only[cc]at hl;by_cases e':t=σ.fb+t'
   . rw[if_pos e']at hl;cases hl;exact hI.at_ t' cL v0 (by rw[<- e'];exact hs)
   . rw[if_neg e',qb (Ne.symm e')]at hl;exact hI.at_ _ _ _ hl
 . simp only[cc]at hl;by_cases e':t=s
   . rw[if_pos e']at hl;cases hl;obtain⟨u,k1,k2⟩:=hI.tm _ _ _ hs;exact⟨u,k1,hv u k2⟩
   . rw[if_neg e',qb (Ne.symm e')]at hl;exact hI.tm _ _ _ hl
theorem O1{w w':CV S}(hv:∀cs,b7 K g m w cs->b7 K g m w' cs):∀{vs:List (CV S)} {i:Nat} {us:List Value},vs[i]?=some w->eb K g m vs us->eb K g m (vs.set i w') us
 |[],i,us,h,_=>by simp at h
 |v::vs,0,us,h,⟨c1,c2,e,h1,h2⟩=>by
  simp at h;subst h;exact⟨c1,c2,e,hv _ h1,h2⟩
 |v::vs,i+1,us,h,⟨c1,c2,e,h1,h2⟩=>⟨c1,c2,e,h1,O1 hv (by simpa using h) h2⟩
theorem CX{t i:Nat}{w w':CV S}(hI:Inv K n ds B m0 rb σ g a m L)(hp:place σ t i=some w)(hv:∀cs,b7 K g m w cs->b7 K g m w' cs):∃g1 L1,GE g g1/\Inv K n ds B m0 rb (CW σ t i w') g1 a m L1:=by
 unfold place at hp;unfold CW;split at hp
 . rename_i cL v hs
   cases i with
   |zero=>
    simp only[al]at hp
    subst hp
    exact⟨g,L,GE.refl g,RT hI hs fun u h=>by simp only[cn]at h ⊢; exact hv _ h⟩
   |succ i=>
    simp only at hp ⊢
    split at hp
    case h_2=>cases hp
    case h_1 o off=>
    split at hp
    case h_2=>cases hp
    case h_1 ver T cs hlk=>
    obtain⟨e,L0,Rst,ho,hperm,hob⟩:=xN (X:=[]) hI.ob hlk
    obtain⟨gh,b,us,h1,h2,rfl,h4⟩:=ho
    have hI2:Inv K n ds B m0 rb {σ with ob:=gR [o] σ.ob} g a m L0:=⟨hI.size,hI.defers,hI.at_,hI.tm,hob,by
     have:=hI.st.perm (hperm.append_right _);have h5:List.Perm ((.box b us.toArray T::(L0++Rst))++ds.X) ((L0++ds.X)++(.box b us.toArray T::Rst)):=by
      show List.Perm (.box b us.toArray T::((L0++Rst)++ds.X)) _;refine(List.Perm.cons _ ?_).trans (List.perm_middle (l₁:=L0++ds.X) (l₂:=Rst) (a:=cp.box b us.toArray T)).symm;rw[az,az];exact bq L0 aU
     exact(this.perm h5).qu,hI.fresh,hI.rt⟩
    obtain⟨g1,k1,k2⟩:=Cc hI2 (q:=o) (ao:=.box T (cs.set i w')) (e:=.box b us.toArray T) ⟨gh,b,us,h1,h2,rfl,O1 hv hp h4⟩ (by
     have:=hI.st.perm (hperm.append_right _);have h5:List.Perm ((.box b us.toArray T::(L0++Rst))++ds.X) (((.box b us.toArray T::L0)++ds.X)++Rst):=by
      simp only[bD,az];exact List.Perm.cons _ (bq L0 aU)
     exact(this.perm h5).qu)
    exact⟨g1,_,k1,k2⟩
 . rename_i cL vs hs
   cases i with
   |zero=>cases hp
   |succ i=>
    simp only at hp ⊢
    exact⟨g,L,GE.refl g,RT hI hs fun u h=>by
     simp only[cn]at h ⊢;obtain⟨cs,e,h1⟩:=h;exact⟨cs,e,O1 hv hp h1⟩⟩
 . cases hp
theorem YV{t i:Nat}{k:PrK}(hI:Inv K n ds B m0 rb σ g a m L)(h:YU σ t i k=some σ1):∃g1 m1 L1,m1.w=m.w/\Le m m1/\GE g g1/\Inv K n ds B m0 rb σ1 g1 a m1 L1:=by
 unfold YU at h;split at h
 . rename_i e c hp;cases h;obtain⟨g1,k1,k2,k3⟩:=Md hI ⟨none,none,0,0,default⟩;obtain⟨g2,L2,k4,k5⟩:=CX (w':= .rw (σ.ct+1) c []) k3 hp fun cs hc=>by
    simp only[b7]at hc ⊢;exact⟨_,[],none,k2,by rw[hc];rfl,gX.nil _ _,gX.nil _ _,rfl,fun h=>absurd h (by simp)⟩
   obtain⟨g3,k6,k7⟩:=Cc k5 (q:=σ.ct+1) (ao:=.row e c) (e:=.row none e (0*zK K c) (0*zK K c)) ⟨_,k4.bk _ _ k2,rfl⟩ (k5.st.Sw (α:=Unit) e (zK K c));exact⟨g3,m,_,rfl,Le.refl m,(k1.trans k4).trans k6,k7⟩
 . rename_i e c hp;cases h;obtain⟨g1,k1,k2,k3⟩:=Md hI ⟨none,none,0,0,default⟩;obtain⟨g2,L2,k4,k5⟩:=CX (w':= .aw (σ.ct+1)) k3 hp fun cs hc=>by
    simp only[b7]at hc ⊢;exact⟨_,k2,by rw[hc]⟩
   obtain⟨g3,k6,k7⟩:=Cc k5 (q:=σ.ct+1) (ao:=.arr e c true []) (e:=.arr none #[] e) ⟨_,#[],k4.bk _ _ k2,rfl,rfl,km.nil _ _ _,fun _=>⟨rfl,EL.nil _ _ _⟩⟩ (k5.st.XC _ _);exact⟨g3,m,_,rfl,Le.refl m,(k1.trans k4).trans k6,k7⟩
 . rename_i o hp;obtain⟨⟨ver,ao⟩,hlk,h1⟩:=ae.1 h;clear h;simp only at h1;split at h1
   case h_2=>cases h1
   case h_1 e c f l=>
   split at h1
   case h_2=>cases h1
   case h_1 o' hp2=>
   split at h1
   case h_2=>cases h1
   case h_1 he=>
   obtain rfl:=ah he;have h3:=ar h1;subst h3;obtain⟨en,L0,Rst,ho,hperm,hob⟩:=xN (X:=[]) hI.ob hlk;obtain⟨gh,cs,h1,h2,rfl,h4,_⟩:=ho;have hs:St B m0 m (.arr gh.g cs e::((L0++ds.X)++Rst)):=(hI.st.perm (hperm.append_right _)).perm (by
    simp only[bD,az];exact List.Perm.cons _ (bq L0 aU))
   obtain⟨m1,hw,hle,hS,hE⟩:=St.Nv (dY K c) hs h4;have hI2:Inv K n ds B m0 rb {σ with ob:=gR [o'] σ.ob} g a m1 L0:=⟨hI.size,hI.defers,hI.at_,fun s cL v h=>(let⟨u,k1,k2⟩:=hI.tm s cL v h;⟨u,k1,k2.mono (GE.refl _) hle⟩),hob.mono (GE.refl _) hle,hS.qu,hI.fresh,hI.rt⟩;obtain⟨g2,L2,k4,k5⟩:=CX (w':= .sl c l) hI2 hp2 fun cs hc=>by
    simp only[b7]at hc ⊢;obtain⟨gh2,j1,j2⟩:=hc;rw[h1]at j1;cases j1;exact⟨gh.ad,gh.cap,by rw[j2,h2],hE⟩
   exact⟨g2,m1,_,hw,hle,k4,k5⟩
 . cases h;exact⟨g,m,L,rfl,Le.refl m,GE.refl g,hI⟩
 . cases h
theorem DJ:∀{l:List (Nat×Nat×PrK)} {σ σ1:AS S} {g:GG S} {m:Mem} {L:List cp},Inv K n ds B m0 rb σ g a m L->Ir l σ=some σ1->∃g1 m1 L1,m1.w=m.w/\Le m m1/\GE g g1/\Inv K n ds B m0 rb σ1 g1 a m1 L1
 |[],σ,σ1,g,m,L,hI,h=>by simp only[Ir,al]at h;subst h;exact⟨g,m,L,rfl,Le.refl m,GE.refl g,hI⟩
 |(t,i,k)::l,σ,σ1,g,m,L,hI,h=>by
  simp only[Ir]at h;obtain⟨σ2,h1,h2⟩:=ae.1 h;obtain⟨g1,m1,L1,hw,hl,k1,k2⟩:=YV hI h1;obtain⟨g2,m2,L2,hw2,hl2,j1,j2⟩:=DJ k2 h2;exact⟨g2,m2,L2,hw2.trans hw,hl.trans hl2,k1.trans j1,j2⟩
end
end E
end
section
open Go.RowKit G
namespace E
variable {S:Nat->Type}{tb:Tb S}{K:ju tb}{P:Program}{tt:TypeId->Option (TI S)}{g:GG S}{m:Mem}
theorem ur{α:Type}{t:Nat}:∀{l l':List (Nat×α)},look t (l++l')=match look t l with|some x=>some x|none=>look t l'
 |[],l'=>rfl
 |(u,x)::l,l'=>by
  rw[bD,cc,cc];by_cases h:u=t
  . rw[if_pos h,if_pos h]
  . rw[if_neg h,if_neg h];exact ur
theorem zq{J:JA}:∀{l:List (Nat×Nat×AV S)} {s:Nat} {x:Nat×AV S},look s (Bi J l)=some x->look s l=some x
 |[],s,x,h=>h
 |(t,y)::l,s,x,h=>by
  unfold Bi at h;rw[cc];split at h
  . rename_i hk;by_cases e:t=s
    . subst e;exfalso;have key:∀l:List (Nat×Nat×AV S),look t (Bi J l)=none:=fun l=>by
       induction l with
       |nil=>rfl
       |cons z l ih=>
        obtain⟨u,z⟩:=z
        unfold Bi
        split
        . exact ih
        . rename_i hk'
          rw[cc]
          by_cases e:u=t
          . subst e;rw[hk]at hk';cases hk'
          . rw[if_neg e];exact ih
      rw[key]at h;cases h
    . rw[if_neg e];exact zq h
  . rw[cc]at h;by_cases e:t=s
    . rw[if_pos e]at h ⊢; exact h
    . rw[if_neg e]at h ⊢; exact zq h
theorem Jo{tm:List (Nat×Nat×AV S)}:∀{l:List (Nat×Nat×AV S)} {s:Nat} {x:Nat×AV S},PQ tm l=true->look s l=some x->∃v,look s tm=some (x.1,v)
 |[],s,x,_,h=>by cases h
 |(t,y)::l,s,x,hs,h=>by
  simp only[PQ,aq]at hs;rw[cc]at h;by_cases e:t=s
  . subst e;rw[if_pos rfl]at h;cases h;have h1:=hs.1;split at h1
    . rename_i z hz;obtain⟨z1,z2⟩:=z;have:=ah h1;simp only at this;exact⟨z2,by rw[hz,this]⟩
    . cases h1
  . rw[if_neg e]at h;exact Jo hs.2 h
theorem Mm{ob:List (Nat×Nat×AO S)}:∀{l:List (Nat×Nat×AO S)} {x:Nat×Nat×AO S},PN ob l=true->x∈l->∃a,look x.1 ob=some (x.2.1,a)
 |[],x,_,h=>by cases h
 |(t,y)::l,x,hs,h=>by
  simp only[PN,aq]at hs;rcases aZ.1 h with rfl|h
  . have h1:=hs.1;split at h1
    . rename_i z hz;obtain⟨z1,z2⟩:=z;have:=ah h1;simp only at this;exact⟨z2,by rw[hz,this]⟩
    . cases h1
  . exact Mm hs.2 h
theorem Ii{r:List Nat}:∀{ob:List (Nat×Nat×AO S)},LB r ob=ob.filter fun x=>has x.1 r
 |[]=>rfl
 |(q,x)::l=>by
  unfold LB;split
  . rename_i h;rw[List.filter_cons_of_pos (by simp[h]),Ii]
  . rename_i h;rw[List.filter_cons_of_neg (by simp[h])];exact Ii
theorem NX{ids:Nat->Nat}:∀{l:List (AO S)} {L:List cp} {o v:Nat},Sb K g m ids o l L->(∀i a e,l[i]?=some a->L[i]?=some e->g.oo (v+i)=some (a,e))->lv K g m (Ti ids o v l) L
 |[],L,o,v,h,_=>h
 |a::l,L,o,v,h,ho=>by
  obtain⟨e,L',rfl,h1,h2⟩:=h;exact⟨e,L',rfl,ho 0 a e rfl rfl,h1,NX h2 fun i b f hb hf=>by
   have:=ho (i+1) b f (by simpa using hb) (by simpa using hf);rw[<- this];congr 1;omega⟩
theorem DB{t x:Nat}:∀{l:List (Nat×Nat)},look t l=some x->(t,x)∈l
 |[],h=>by cases h
 |(u,y)::l,h=>by
  rw[cc]at h;by_cases e:u=t
  . rw[if_pos e]at h;cases h;rw[e];exact ax
  . rw[if_neg e]at h;exact aE _ (DB h)
theorem Wr{l:List (Nat×Nat)}{x:Nat}:∀{a b:Nat},(l.map (·.2)).Nodup->(a,x)∈l->(b,x)∈l->a=b:=by
 induction l with
 |nil=>intro a b _ h;cases h
 |cons p l ih=>
  intro a b hn ha hb
  obtain⟨h1,h2⟩:=List.nodup_cons.1 hn
  rcases aZ.1 ha with e|ha'
  . rcases aZ.1 hb with e2|hb'
    . rw[<- e]at e2;exact(Prod.mk.inj e2).1.symm
    . exact absurd (List.mem_map.2 ⟨_,hb',by rw[<- e]⟩) h1
  . rcases aZ.1 hb with e2|hb'
    . exact absurd (List.mem_map.2 ⟨_,ha',by rw[<- e2]⟩) h1
    . exact ih h2 ha' hb'
theorem Q8{ids:Nat->Nat}:∀{l:List (AO S)} {L:List cp} {o v:Nat},Sb K g m ids o l L->(∀i,ids (o+i)=v+i)->(∀i a e,l[i]?=some a->L[i]?=some e->g.oo (v+i)=some (a,e))->lv K g m (Q7 v l) L
 |[],L,o,v,h,_,_=>h
 |a::l,L,o,v,h,hi,ho=>by
  obtain⟨e,L',rfl,h1,h2⟩:=h;refine⟨e,L',rfl,ho 0 a e rfl rfl,?_,Q8 h2 (fun i=>?_) fun i b f hb hf=>?_⟩
  . have:=hi 0;simp only[Nat.add_zero]at this;rw[this]at h1;exact h1
  . have:=hi (i+1);rw[show o+1+i=o+(i+1)by omega,this];omega
  . have:=ho (i+1) b f (by simpa using hb) (by simpa using hf);rw[<- this];congr 1;omega
theorem Ox{ids:Nat->Nat}:∀{l:List (AO S)} {L:List cp} {o:Nat},Sb K g m ids o l L->L.length=l.length
 |[],L,o,h=>by simp only[Sb]at h;subst h;rfl
 |a::l,L,o,h=>by obtain⟨e,L',rfl,h1,h2⟩:=h;simp[Ox h2]
theorem L7{z:ZL S}{f:((Nat×Nat×AO S)×cp)->Nat}:∀{z0:ZL S},(∀p0∈z0,∃p,zr z (f p0)=some p/\p.2=p0.2)->(jr z (z0.map f)).map Prod.snd=z0.map Prod.snd
 |[],_=>rfl
 |p0::z0,h=>by
  obtain⟨p,h1,h2⟩:=h p0 ax;have ih:=L7 (z0:=z0) fun q hq=>h q (aE _ hq)
  simp only[jr]at ih;simp only[jr,aO,List.filterMap_cons,h1,h2,ih]
section
variable {n:Nat}{ds ds0:Cx}{B:List Nat}{m0 ms:Mem}{rb:Nat->Option Gh}{σ0 σ σ1:AS S}{a a0:Act}{L L0:List cp}{g0:GG S}
theorem RY{L L' Y X:List cp}{m:Mem}(h:St B m0 m (L++X))(p:List.Perm L (L'++Y)):St B m0 m (L'++X):=by
 have h1:List.Perm (L++X) ((L'++X)++Y):=(List.Perm.append_right X p).trans (by rw[az,az];exact bq _ aU);exact(h.perm h1).qu
theorem Dy{J:JA}{z:HT S J.ls}(h0:Inv K n ds0 B m0 rb σ0 g0 a0 ms L0)(hI:Inv K n ds B m0 rb σ g a m L)(hge:GE g0 g)(hle:Le ms m)(hp:pack tb J σ0 σ=some z)(hu:unpack tb J σ0 z=some σ1):
 ∃g1 m1 L1,m1.w=m.w/\Le ms m1/\GE g0 g1/\Inv K n ds B m0 rb σ1 g1 a m1 L1:=by
 unfold pack at hp
 obtain⟨σp,hpre,hp⟩:=ae.1 hp
 obtain⟨gp,mp_,Lp,hw,hle1,hge1,hI⟩:=DJ hI hpre
 replace hge:=hge.trans hge1
 replace hle:=hle.trans hle1
 clear hpre hle1 hge1
 suffices ∃g1 L1,GE g0 g1/\Inv K n ds B m0 rb σ1 g1 a mp_ L1 by
  obtain⟨g1,L1,k1,k2⟩:=this;exact⟨g1,mp_,L1,hw,hle,k1,k2⟩
 clear hw
 revert hp hI hge hle
 generalize σp=σ,gp=g,mp_=m,Lp=L
 intro hp hI hge hle
 split at hp
 case h_2=>cases hp
 case h_1 hc=>
 simp only[aq]at hc
 obtain⟨⟨⟨⟨c1,c2⟩,c3⟩,c4⟩,c5⟩:=hc
 have hfx:∀o q,look o J.fx=some q->(∃x,look q σ0.ob=some x)/\o<=200:=fun o q h=>by
  have:=aR.1 c4 _ (DB h);simp only[aq,Option.isSome_iff_exists]at this;exact⟨this.1,ay this.2⟩
 have hMf:qY J.fx:=⟨fun o o' q h h'=>Wr (qC c5) (DB h) (DB h'),fun o q h=>(hfx o q h).2⟩
 obtain⟨⟨pd,mp0⟩,hp1,hp⟩:=ae.1 hp
 obtain⟨⟨qd,mp⟩,hq1,hp⟩:=ae.1 hp
 simp only at hq1 hp
 split at hp
 case h_2=>cases hp
 case h_1 hd=>
 have d2:=hd
 obtain⟨dd,hdd,hof⟩:=ae.1 hp
 unfold unpack at hu
 obtain⟨de,hde,hu1⟩:=ae.1 hu
 obtain⟨⟨tl,r1⟩,hf1,hu2⟩:=ae.1 hu1
 obtain⟨⟨ol,r2⟩,hf2,hu3⟩:=ae.1 hu2
 clear hu hu1 hu2
 simp only[al]at hu3
 simp only at hf2
 rw[Lh hof]at hde
 have:=DH J.Z0 hdd hde
 subst this
 have c3:=ah c3
 have hJ:=J.J4
 simp only[aq]at hJ
 have hJ1:=ay hJ.1
 have hJ2:=ay hJ.2
 let val:Nat->Value:=fun s=>((look s σ.tm).bind fun x=>g.vv x.1).getD undef
 have hval:∀t cL v,look t σ.tm=some (cL,v)->g.vv cL=some (val t):=fun t cL v ht=>by
  obtain⟨u,h1,_⟩:=hI.tm t cL v ht;show _=some (((look t σ.tm).bind fun x=>g.vv x.1).getD undef);rw[ht];simp[h1]
 obtain⟨s1,s2,s3⟩:=FP (val:=val) (fun t cL v ht=>by
  obtain⟨u,h1,h2⟩:=hI.tm t cL v ht;rw[hval t cL v ht]at h1;cases h1;exact h2) hp1
 obtain⟨t1,t2,t3⟩:=OS.yV hq1
 have hM:=t2 (s2 hMf)
 obtain⟨z,hz1,hz2,hz3⟩:=zt hI.ob
 obtain⟨z0,hy1,hy2,hy3⟩:=zt h0.ob
 have hnd:=qC d2
 obtain⟨Y,hY⟩:=we (z:=z) hnd
 have hkept:∃r:Nat->Bool,GJ J σ0=σ0.ob.filter fun x=>r x.1:=by
  unfold GJ;rw[Ct,Ii,List.filter_filter];exact⟨fun q=>!has q _&&has q _,rfl⟩
 obtain⟨r,hr⟩:=hkept
 have hk2:GJ J σ0=(z0.filter fun p=>r p.1.1).map Prod.fst:=by rw[hr,<- hy1,List.filter_map];rfl
 have hk3:(GJ J σ0).map (·.1)=(z0.filter fun p=>r p.1.1).map fun p=>p.1.1:=by rw[hk2,List.map_map];rfl
 have hsame:∀p0∈z0.filter (fun p=>r p.1.1),∃p,zr z p0.1.1=some p/\p.2=p0.2:=fun p0 hp0=>by
  have hm:=(ba.1 hp0).1;obtain⟨x,hx⟩:=Mm c2 (x:=p0.1) (by rw[hk2];exact List.mem_map_of_mem hp0);rw[<- hz1,yk]at hx;obtain⟨p,hp1,hp2⟩:=af.1 hx;refine⟨p,hp1,?_⟩;have e1:=(hz3 p (n9 hp1).1).1;have e2:=hge.oo _ _ (hy3 p0 hm).1;rw[hp2]at e1;simp only at e1;rw[e1]at e2;have:=ar e2;exact(Prod.mk.inj this).2
 have hLK:=L7 (z:=z) hsame
 have hJL:lv K g m (pick σ.ob (Iu mp 0 J.eW.length)) ((jr z (Iu mp 0 J.eW.length)).map Prod.snd):=by
  rw[<- hz1,<- wc];exact ye fun p hp=>by
   obtain⟨q,_,hq⟩:=List.mem_filterMap.1 hp;exact hz3 p (n9 hq).1
 generalize hLJ:(jr z (Iu mp 0 J.eW.length)).map Prod.snd=LJ at hJL
 let g1:GG S:=
  {bk:=fun i=>if σ0.ct<=i then(look (i-σ0.ct) mp).bind g.bk else g0.bk i
   vv:=fun i=>if σ0.ct<=i then(if σ0.ct+64<=i then(tl[i-(σ0.ct+64)]?).map fun x=>val x.1 else none)else g0.vv i
   oo:=fun i=>if σ0.ct<=i then(match ol[i-σ0.ct]?,LJ[i-σ0.ct]? with|some a,some e=>some (a,e)|_,_=>none)else g0.oo i}
 have ge1:GE g0 g1:=⟨fun i x hx=>by
  show(if _ then _ else _)=_;rw[if_neg fun h=>by rw[(h0.fresh i h).1]at hx;cases hx];exact hx,fun i x hx=>by
  show(if _ then _ else _)=_;rw[if_neg fun h=>by rw[(h0.fresh i h).2.1]at hx;cases hx];exact hx,fun i x hx=>by
  show(if _ then _ else _)=_;rw[if_neg fun h=>by rw[(h0.fresh i h).2.2]at hx;cases hx];exact hx⟩
 have hRen:Ren mp g g1 (J.ids σ0.ct):=fun o q h ho hb=>by
  unfold JA.ids;split
  . rename_i q' hq';have:=t1 _ _ (s1 _ _ hq');rw[ho]at this;cases this;obtain⟨⟨ver,ao⟩,hx⟩:=(hfx o q hq').1;obtain⟨e,_,_,ho2,_,_⟩:=xN (X:=[]) h0.ob hx;have hb0:∃gh,g0.bk q=some gh:=by
     cases ao with
     |box T cs=>obtain⟨gh,b,vs,h1,_⟩:=ho2;exact⟨gh,h1⟩
     |row T c=>obtain⟨gh,h1,_⟩:=ho2;exact⟨gh,h1⟩
     |arr T c f l=>obtain⟨gh,cs,h1,_⟩:=ho2;exact⟨gh,h1⟩
     |loop r st tm=>obtain⟨gh,_,_,_,_,h1,_⟩:=ho2;exact⟨gh,h1⟩
     |map t kc vc l hole=>obtain⟨gh,_,_,_,h1,_⟩:=ho2;exact⟨gh,h1⟩
     |fo t et kc c l hole=>obtain⟨gh,_,_,_,_,h1,_⟩:=ho2;exact⟨gh,h1⟩
     |sL t kc vc l hole q=>obtain⟨gh,_,_,_,h1,_⟩:=ho2;exact⟨gh,h1⟩
     |Jf kc o st=>obtain⟨gh,_,_,_,h1,_⟩:=ho2;exact⟨gh,h1⟩
     |MU t kc l=>obtain⟨gh,_,_,_,h1,_⟩:=ho2;exact⟨gh,h1⟩
    obtain⟨gh,hb0⟩:=hb0;have:=hge.bk _ _ hb0;rw[hb]at this;cases this;show(if σ0.ct<=q then _ else g0.bk q)=_;rw[if_neg fun hle=>by rw[(h0.fresh q hle).1]at hb0;cases hb0];exact hb0
  . show(if σ0.ct<=σ0.ct+o then(look (σ0.ct+o-σ0.ct) mp).bind g.bk else _)=_;rw[if_pos (by omega),show σ0.ct+o-σ0.ct=o by omega,ho];exact hb
 obtain⟨e1,e2,e3⟩:=s3 g1 _ _ _ _ _ (hRen.sub t1) hf1
 rw[e1]at hf2
 obtain⟨_,f2,f3⟩:=OS.DP hq1 (Sub.refl _) hJL g1 _ [] _ _ hRen (by rw[aL];exact hf2)
 have f4:=Ox f2
 refine⟨g1,LJ++(z0.filter fun p=>r p.1.1).map Prod.snd,ge1,?_⟩
 subst hu3
 refine⟨hI.size,hI.defers,fun t cL v hs=>?_,fun s cL v hs=>?_,AX (NX f2 fun i x e hx he=>?_) ?_,?_,fun i hi=>⟨?_,?_,?_⟩,⟨h0.rt.1,fun j q hj=>?_⟩⟩
 ·
  simp only at hs
  rw[ur]at hs
  split at hs
  . rename_i x hx
    cases hs
    obtain⟨i,hi⟩:=List.getElem?_of_mem (nW hx)
    obtain⟨e4,e5,y,e6⟩:=e3 i _ hi
    simp only at e4 e6
    show(if _ then _ else _)=_
    rw[if_pos (by omega),if_pos (by omega),e4,show σ0.ct+64+i-(σ0.ct+64)=i by omega,hi]
    obtain⟨y1,y2⟩:=y
    have e7:=hval _ _ _ e6
    rw[<- c3]at e6
    rw[hI.at_ _ _ _ e6]at e7
    exact e7.symm
  . obtain⟨v',hv'⟩:=Jo c1 hs
    have h1:=zq hs
    obtain⟨u,hu1,_⟩:=h0.tm _ _ _ h1
    rw[<- c3]at hv'
    have h2:=hI.at_ _ _ _ hv'
    simp only at h2
    rw[hge.vv _ _ hu1]at h2
    rw[ge1.vv _ _ hu1];exact h2
 . simp only at hs
   rw[ur]at hs
   split at hs
   . rename_i x hx
     cases hs
     obtain⟨i,hi⟩:=List.getElem?_of_mem (nW hx)
     obtain⟨e4,e5,y,e6⟩:=e3 i _ hi
     simp only at e4 e5
     refine⟨val s,?_,e5⟩
     show(if _ then _ else _)=_
     rw[if_pos (by omega),if_pos (by omega),e4,show σ0.ct+64+i-(σ0.ct+64)=i by omega,hi]
     rfl
   . obtain⟨u,hu1,hu2⟩:=h0.tm _ _ _ (zq hs)
     exact⟨u,ge1.vv _ _ hu1,hu2.mono ge1 hle⟩
 . show(if _ then _ else _)=_
   rw[if_pos (by omega),show σ0.ct+i-σ0.ct=i by omega,hx,he]
 . rw[hk2]
   exact ye fun p hp=>by
    obtain⟨k1,k2⟩:=hy3 p (ba.1 hp).1;exact⟨ge1.oo _ _ k1,k2.mono ge1 hle⟩
 . refine RY hI.st (Y:=Y.map Prod.snd) ?_
   show List.Perm L ((LJ++(z0.filter fun p=>r p.1.1).map Prod.snd)++Y.map Prod.snd)
   ·
    rw[<- hz2,<- hLJ,<- hLK,<- hk3,<- aY,<- aY]
    refine List.Perm.map _ ?_
    have:jr z (Iu mp 0 J.eW.length)++jr z ((GJ J σ0).map (·.1))=jr z (Iu mp 0 J.eW.length++(GJ J σ0).map (·.1)):=by
     simp only[jr,List.filterMap_append]
    rw[this];exact hY
 . simp only at hi
   show(if _ then _ else _)=_
   rw[if_pos (by omega)]
   cases hl:look (i-σ0.ct) mp with
   |none=>rfl
   |some q=>have:=hM.small _ _ hl;omega
 . simp only at hi
   show(if _ then _ else _)=_
   rw[if_pos (by omega),if_pos (by omega),List.getElem?_eq_none (by omega)];rfl
 . simp only at hi
   show(if _ then _ else _)=_
   rw[if_pos (by omega),List.getElem?_eq_none (l:=ol) (by omega)]
 . obtain⟨h,k1,k2⟩:=h0.rt.2 j _ hj
   exact⟨h,k1,ge1.bk _ _ k2⟩
end
end E
end
section
open Go.RowKit G
open Go.ChangeMaps (setBlock)
namespace E
variable {S:Nat->Type}{tb:Tb S}{K:ju tb}{P:Program}{tt:TypeId->Option (TI S)}{g:GG S}{m m0:Mem}{n:Nat}{ds:Cx}{B:List Nat}{rb:Nat->Option Gh}{σ σ2:AS S}{a:Act}{L:List cp}
theorem Bj{t s:Nat}:∀{l:List (Nat×Nat×AV S)},look s (Uj t l)=if s=t then none else look s l
 |[]=>by unfold Uj;simp[look]
 |(u,x)::l=>by
  have ih:=Bj (t:=t) (s:=s) (l:=l);unfold Uj at ih ⊢;rw[List.filter_cons];by_cases h:u=t
  . subst h;rw[if_neg (by simp),ih];by_cases h2:s=u
    . rw[if_pos h2,if_pos h2]
    . rw[if_neg h2,if_neg h2,cc,if_neg (Ne.symm h2)]
  . rw[if_pos (by rw[xc h];rfl),cc,cc,ih];by_cases h2:s=t
    . rw[if_pos h2,if_pos h2,if_neg (by rw[h2];exact h)]
    . rw[if_neg h2,if_neg h2]
theorem Cu(hI:Inv K n ds B m0 rb σ g a m L)(t:Nat):Inv K n ds B m0 rb (σ.fI t) g a m L:=by
 have key:∀s cL v,look s (σ.fI t).tm=some (cL,v)->look s σ.tm=some (cL,v):=fun s cL v h=>by
  unfold AS.fI at h;simp only at h;rw[Bj]at h;split at h
  . cases h
  . exact h
 exact⟨hI.size,hI.defers,fun t' cL v h=>hI.at_ t' cL v (key _ _ _ h),fun s cL v h=>hI.tm s cL v (key _ _ _ h),hI.ob,hI.st,hI.fresh,hI.rt⟩
theorem Ba(σ:AS S)(t:Nat):look (σ.fb+t) (σ.fI t).tm=none:=by
 unfold AS.fI;simp only;rw[Bj,if_pos rfl]
theorem A9{t u:Nat}(h:look (σ.fb+u) σ.tm=none):look (σ.fb+u) (σ.fI t).tm=none:=by
 unfold AS.fI;simp only;rw[Bj];split
 . rfl
 . exact h
theorem J8(hI:Inv K n ds B m0 rb σ g a m L){t:Nat}(ht:look (σ.fb+t) σ.tm=none)(v:Value):Inv K n ds B m0 rb σ g (a.put (some t) v) m L:=
 ⟨by simp[Act.put,hI.size],hI.defers,fun t' cL x h=>by
  rw[Act.eval_put (fun d hd e=>by cases hd;cases e;rw[ht]at h;cases h)];exact hI.at_ t' cL x h,hI.tm,hI.ob,hI.st,hI.fresh,hI.rt⟩
theorem zZ:∀{ob:List (Nat×Nat×AO S)} {L:List cp} {q ver:Nat} {ao:AO S},lv K g m ob L->look q ob=some (ver,ao)->∃e∈L,g.oo ver=some (ao,e)/\xo K g m q ao e
 |[],_,_,_,_,_,h=>by simp[look]at h
 |(u,x)::ob,L,q,ver,ao,⟨e,L',h0,h1,h2,h3⟩,h=>by
  subst h0;rw[cc]at h;split at h
  . rename_i hu;subst hu;cases h;exact⟨e,ax,h1,h2⟩
  . obtain⟨e',j1,j2⟩:=zZ h3 h;exact⟨e',aE _ j1,j2⟩
theorem CF{q o:Nat}(h:o≠q):∀{ob:List (Nat×Nat×AO S)},look o (gR [q] ob)=look o ob
 |[]=>rfl
 |(u,x)::ob=>by
  unfold gR;by_cases hu:u=q
  . subst hu;rw[show has u [u]=true from sc.2 ax];simp only;rw[CF h,cc,if_neg (Ne.symm h)]
  . rw[show has u [q]=false from by
     cases hb:has u [q]with
     |false=>rfl
     |true=>exact absurd (List.mem_singleton.1 (sc.1 hb)) hu]
    simp only;rw[cc,cc,CF h]
theorem GF{b:Nat}{o:Obj}(hI:Inv K n ds B m0 rb σ g a m L)(h:cp.obj b o∈L):m.w.heap[b]?=some o:=hI.st.ow.ok (.obj b o) (bu _ h)
structure acD(K:ju tb)(σ:AS S)(g:GG S)(a:Act)(m:Mem)(q it ver o ver2:Nat)(t:TypeId)(kc vc:Co)(st:Option (Option (T S kc)))(l:List (T S kc×T S vc))(gq:Gh)(r:Nat)(seen:Array Nat)(es:Array MapEntry):Prop where
 lq:look q σ.ob=some (ver,.Jf kc o st)
 lo:look o σ.ob=some (ver2,.sL t kc vc l none q)
 bk:g.bk q=some gq
 gr:gq.g=some r
 ev:a.eval (.tmp it)=.pointer (some ⟨r,0,none⟩)
 hr:m.w.heap[r]?=some (.mapIter (some gq.cap) gq.n seen gq.n)
 hb:m.w.heap[gq.cap]?=some (.map es gq.n)
 itr:itR K m kc gq.sk seen st
 mp:sS (fW K kc m) (fun y v=>RK K vc m y [v]) es gq.n l
 sk:es.toList.map (fun e=>(e.key,e.born))=gq.sk
theorem aa1{q it:Nat}(hI:Inv K n ds B m0 rb σ g a m L)(h:Th q it σ=true):∃ver o ver2 t kc vc st l gq r seen es,acD K σ g a m q it ver o ver2 t kc vc st l gq r seen es:=by
 unfold Th at h;split at h
 . rename_i cL q' ver kc o st Hq hq;split at h
   . rename_i ver2 t kc' vc l q2 ho;simp only[aq]at h;obtain⟨e1,e2,e3⟩:=h;obtain rfl:=ah e1;obtain rfl:=ah e2;split at e3
     . rename_i hk _;subst hk;obtain⟨h1,h2⟩:=hI.slot Hq;simp only[cn,b7]at h2;obtain⟨gq,r,k1,k2,k3⟩:=h2;obtain⟨e,he,_,gh,go,r',seen,j1,j2,j3,j4,rfl,j6⟩:=zZ hI.ob hq;rw[k1]at j1;cases j1;rw[k2]at j2;cases j2;obtain⟨e2,he2,_,gm,b,es,gq',m1,m2,m3,m4,rfl,m5,m6,m7⟩:=zZ hI.ob ho;rw[k1]at m3;cases m3;rw[m1]at j3;cases j3;exact⟨ver,o,ver2,t,_,vc,st,l,gq,r,seen,es,hq,ho,k1,k2,by simpa using k3,GF hI he,by rw[m4];exact GF hI he2,j6,m5,m7⟩
     . cases e3
   . cases h
 . cases h
theorem aa3{q it nx c ver o ver2 r:Nat}{t:TypeId}{kc vc kx:Co}{st:Option (Option (T S kc))}{l:List (T S kc×T S vc)}{gq:Gh}{seen:Array Nat}{es:Array MapEntry}{x:T S kx}
 (hI:Inv K n ds B m0 rb σ g a m L) (hA:acD K σ g a m q it ver o ver2 t kc vc st l gq r seen es) (h:Wo q it nx c x σ=some σ2) {w1:World} (hw1:w1=m.w\/w1=m.w.drew) {j:Nat} {p:Value×Nat} (hsk:gq.sk[j]?=some p) (hx:fW K kx m x p.1) (v1 v2:Value):
 ∃g2 m2 L2,m2.w=setBlock w1 r (.mapIter (some gq.cap) gq.n (seen.push p.2) gq.n)/\Le m m2/\GE g g2/\Inv K n ds B m0 rb σ2 g2 ((a.put (some nx) v1).put (some c) v2) m2 L2/\∃ao,g2.oo (σ.ct+32)=some (ao,.obj r (.mapIter (some gq.cap) gq.n (seen.push p.2) gq.n)):=by
 unfold Wo at h
 rw[hA.lq]at h
 simp only at h
 split at h
 case h_2=>cases h
 case h_1 hk hat _=>
 subst hk
 cases h
 have hI1:=Cu (Cu hI nx) c
 have hI2:Inv K n ds B m0 rb ((σ.fI nx).fI c) g ((a.put (some nx) v1).put (some c) v2) m L:=
  J8 (J8 hI1 (A9 (σ:=σ.fI nx) (Ba σ nx)) v1) (Ba (σ.fI nx) c) v2
 obtain⟨e,L0,Rst,ho,hperm,hob⟩:=xN (X:=[]) hI2.ob (show look q ((σ.fI nx).fI c).ob=some (ver,.Jf kx o st) from hA.lq)
 have hmem:e∈L:=hperm.mem_iff.2 ax
 obtain⟨gh,go,r',seen',j1,j2,j3,j4,rfl,j6⟩:=ho
 rw[hA.bk]at j1;cases j1
 rw[hA.gr]at j2;cases j2
 have hh:=GF hI hmem
 rw[hA.hr]at hh
 cases hh
 have hst:=hI2.st.perm (hperm.append_right ds.X)
 have hr1:w1.heap[r]?=some (.mapIter (some gq.cap) gq.n seen gq.n):=by rcases hw1 with rfl|rfl<;>exact hA.hr
 have hw:m.w.grownBy (setBlock w1 r (.mapIter (some gq.cap) gq.n (seen.push p.2) gq.n)) (some r):=by
  rcases hw1 with rfl|rfl<;>exact⟨rfl,rfl,rfl,by simp[setBlock],fun i _ hi=>by
   have hne:r≠i:=fun e=>hi (by rw[e])
   first|(simp[setBlock,hne];done)|(simp[setBlock,hne];rfl)⟩
 have hsz:(setBlock w1 r (.mapIter (some gq.cap) gq.n (seen.push p.2) gq.n)).heap.size=m.w.heap.size:=by rcases hw1 with rfl|rfl<;>simp[setBlock]
 have hbb:(setBlock w1 r (.mapIter (some gq.cap) gq.n (seen.push p.2) gq.n)).heap[r]?=some (.mapIter (some gq.cap) gq.n (seen.push p.2) gq.n):=by
  have hlt:r<w1.heap.size:=(Array.getElem?_eq_some_iff.1 hr1).1;simp[setBlock,hlt]
 have hst':St B m0 m (cp.obj r (.mapIter (some gq.cap) gq.n seen gq.n)::((L0++Rst)++ds.X)):=hst
 have hS:=hst'.vA hw hsz hbb
 have hle:Le m ⟨setBlock w1 r (.mapIter (some gq.cap) gq.n (seen.push p.2) gq.n),m.ok⟩:=((St.refl hst'.ow).vA hw hsz hbb).le
 have hS2:St B m0 ⟨setBlock w1 r (.mapIter (some gq.cap) gq.n (seen.push p.2) gq.n),m.ok⟩ ((cp.obj r (.mapIter (some gq.cap) gq.n (seen.push p.2) gq.n)::L0)++ds.X):=by
  have h5:List.Perm (cp.obj r (.mapIter (some gq.cap) gq.n (seen.push p.2) gq.n)::((L0++Rst)++ds.X)) (((cp.obj r (.mapIter (some gq.cap) gq.n (seen.push p.2) gq.n)::L0)++ds.X)++Rst):=by
   simp only[bD,az];exact List.Perm.cons _ (bq L0 aU)
  exact(hS.perm h5).qu
 have hI3:Inv K n ds B m0 rb {(σ.fI nx).fI c with ob:=gR [q] ((σ.fI nx).fI c).ob} g ((a.put (some nx) v1).put (some c) v2) ⟨setBlock w1 r (.mapIter (some gq.cap) gq.n (seen.push p.2) gq.n),m.ok⟩ L0:=
  ⟨hI2.size,hI2.defers,hI2.at_,fun s cL v h=>(let⟨u,k1,k2⟩:=hI2.tm s cL v h;⟨u,k1,k2.mono (GE.refl g) hle⟩),hob.mono (GE.refl g) hle,by
   have h5:List.Perm ((cp.obj r (.mapIter (some gq.cap) gq.n (seen.push p.2) gq.n)::L0)++ds.X) ((L0++ds.X)++[cp.obj r (.mapIter (some gq.cap) gq.n (seen.push p.2) gq.n)]):=by
    rw[bD];exact(List.perm_append_singleton _ _).symm
   exact(hS2.perm h5).qu,hI2.fresh,hI2.rt⟩
 have hobj:xo K g ⟨setBlock w1 r (.mapIter (some gq.cap) gq.n (seen.push p.2) gq.n),m.ok⟩ q (.Jf kx o (some (some (Je rfl x)))) (.obj r (.mapIter (some gq.cap) gq.n (seen.push p.2) gq.n)):=
  ⟨gq,go,r,seen.push p.2,hA.bk,hA.gr,j3,j4,rfl,j,p,hsk,by simp,fW.mono K hle hx⟩
 obtain⟨g2,k1,k2⟩:=Cc hI3 hobj hS2
 refine⟨g2,_,_,rfl,hle,k1,k2,.Jf kx o (some (some (Je rfl x))),?_⟩
 obtain⟨e,L',h0,h1,_⟩:=k2.ob
 cases h0
 exact h1
theorem YC{q it nx c ver o ver2 r:Nat}{t:TypeId}{kc vc:Co}{st:Option (Option (T S kc))}{l:List (T S kc×T S vc)}{gq:Gh}{seen:Array Nat}{es:Array MapEntry}
 (hI:Inv K n ds B m0 rb σ g a m L) (hA:acD K σ g a m q it ver o ver2 t kc vc st l gq r seen es) (h:NV q it nx c σ=some σ2) (v1 v2:Value):
 ∃g2 L2,GE g g2/\Inv K n ds B m0 rb σ2 g2 ((a.put (some nx) v1).put (some c) v2) m L2:=by
 unfold NV at h
 rw[hA.lq]at h
 simp only at h
 rw[hA.lo]at h
 split at h
 case h_2=>cases h
 case h_1 e1 _=>
 cases e1
 cases h
 have hI1:=Cu (Cu (Cu hI nx) c) it
 have hI2:Inv K n ds B m0 rb (((σ.fI nx).fI c).fI it) g ((a.put (some nx) v1).put (some c) v2) m L:=
  J8 (J8 hI1 (A9 (σ:=(σ.fI nx).fI c) (A9 (σ:=σ.fI nx) (Ba σ nx))) v1) (A9 (σ:=(σ.fI nx).fI c) (Ba (σ.fI nx) c)) v2
 have hoq:o≠q:=fun e=>by
  have h1:=hA.lq;have h2:=hA.lo;rw[e,h1]at h2;cases h2
 obtain⟨e,L0,Rst,ho,hperm,hob⟩:=xN (X:=[]) hI2.ob (show look q (((σ.fI nx).fI c).fI it).ob=some (ver,.Jf kc o st) from hA.lq)
 have hI3:Inv K n ds B m0 rb {(((σ.fI nx).fI c).fI it)with ob:=gR [q] (((σ.fI nx).fI c).fI it).ob} g ((a.put (some nx) v1).put (some c) v2) m L0:=
  ⟨hI2.size,hI2.defers,hI2.at_,hI2.tm,hob,by
   have h5:List.Perm ((e::(L0++Rst))++ds.X) ((L0++ds.X)++(e::Rst)):=by
    show List.Perm (e::((L0++Rst)++ds.X)) _;refine(List.Perm.cons _ ?_).trans (List.perm_middle (l₁:=L0++ds.X) (l₂:=Rst) (a:=e)).symm;rw[az,az];exact bq L0 aU
   exact((hI2.st.perm (hperm.append_right _)).perm h5).qu,hI2.fresh,hI2.rt⟩
 obtain⟨e2,L1,Rst2,ho2,hperm2,hob2⟩:=xN (X:=[]) hI3.ob (show look o (gR [q] (((σ.fI nx).fI c).fI it).ob)=some (ver2,.sL t kc vc l none q) from by rw[CF hoq];exact hA.lo)
 have hp2:List.Perm ((e2::(L1++Rst2))++ds.X) (((e2::L1)++ds.X)++Rst2):=by
  simp only[bD,az];exact List.Perm.cons _ (bq L1 aU)
 have hS2:St B m0 m ((e2::L1)++ds.X):=((hI3.st.perm (hperm2.append_right _)).perm hp2).qu
 have hI4:Inv K n ds B m0 rb {(((σ.fI nx).fI c).fI it)with ob:=gR [o] (gR [q] (((σ.fI nx).fI c).fI it).ob)} g ((a.put (some nx) v1).put (some c) v2) m L1:=
  ⟨hI2.size,hI2.defers,hI2.at_,hI2.tm,hob2,by
   have h5:List.Perm ((e2::L1)++ds.X) ((L1++ds.X)++[e2]):=by
    rw[bD];exact(List.perm_append_singleton _ _).symm
   exact(hS2.perm h5).qu,hI2.fresh,hI2.rt⟩
 obtain⟨gm,b,es',gq',m1,m2,m3,m4,rfl,m5,m6,m7⟩:=ho2
 obtain⟨g2,k1,k2⟩:=Cc hI4 (q:=o) (ao:=.map t kc vc l none) (e:=.obj b (.map es' gq'.n)) ⟨gm,b,es',gq'.n,m1,m2,rfl,m5,trivial⟩ hS2
 exact⟨g2,_,k1,k2⟩
theorem aa2{q it nx c:Nat}{kc:Co}{x:T S kc}(h:Wo q it nx c x σ=some σ2):Th q it σ=true:=by
 unfold Wo at h;split at h
 . split at h
   . rename_i hb;exact hb
   . cases h
 . cases h
theorem YB{q it nx c:Nat}(h:NV q it nx c σ=some σ2):Th q it σ=true:=by
 unfold NV at h;split at h
 . split at h
   . rename_i hb;exact hb
   . cases h
 . cases h
theorem WE{α:Type}(l:List α):(List.range l.length).filterMap (fun i=>l[i]?)=l:=by
 have key:∀k,k<=l.length->(List.range k).filterMap (fun i=>l[i]?)=l.take k:=fun k=>by
  induction k with
  |zero=>intro _;simp
  |succ k ih=>
   intro h
   rw[List.range_succ,List.filterMap_append,ih (by omega),aB (by omega)]
   simp[show k<l.length by omega]
 rw[key _ (Nat.le_refl _),bn]
end E
end
end Go.Proofs.YtekpafdhgkocaaaGreat
