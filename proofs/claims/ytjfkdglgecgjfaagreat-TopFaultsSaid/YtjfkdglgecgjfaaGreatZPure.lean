/- Part of the proof. -/
import Derived.Test.YtjfkdglgecgjfaaGreatZa0
import Derived.Lib.Index
import GoSem.Core.View
namespace Go.Proofs.YtjfkdglgecgjfaaGreat
section
open IntKind(i64)
namespace G
variable {α β σ:Type}
def EC(x:Int):Prop:= -9223372036854775808<=x/\x<=9223372036854775807
def Len{α:Type}(l:List α):Prop:=l.length<=9223372036854775807
def idx(l:List α)(i:Int):Option α:=if 0<=i then l[i.toNat]? else none
def jP(l:List α)(i:Int):Option (List α):=if 0<=i/\i<=l.length then some (l.drop i.toNat)else none
def qO(l:List α)(j:Int):Option (List α):=if 0<=j/\j<=l.length then some (l.take j.toNat)else none
def tX(l:List α)(i j:Int):Option (List α):=if 0<=i/\i<=j/\j<=l.length then some ((l.take j.toNat).drop i.toNat)else none
def app(b:Nat)(l l':List α):Option (List α):=if(l.length+l'.length)*b<=140737488355328 then some (l++l')else none
def nW(p:Prop)[Decidable p]:Option Unit:=if p then some ()else none
def u8(x:Int):UInt8:=UInt8.ofNat (x % 256).toNat
def ib(a b:Int):Int:=if b<a then b else a
def imax(a b:Int):Int:=if a<b then b else a
def KX(k:IntKind)(a b:Int):Int:=k.wrap ((BitVec.ofInt k.bits a &&& BitVec.ofInt k.bits b).toNat:Nat)
def Yl(k:IntKind)(a b:Int):Int:=k.wrap ((BitVec.ofInt k.bits a ||| BitVec.ofInt k.bits b).toNat:Nat)
def PL(k:IntKind)(a b:Int):Int:=k.wrap ((BitVec.ofInt k.bits a ^^^ BitVec.ofInt k.bits b).toNat:Nat)
def Nk(k:IntKind)(a b:Int):Int:=k.wrap ((BitVec.ofInt k.bits a &&& ~~~(BitVec.ofInt k.bits b)).toNat:Nat)
def Bt(k:IntKind)(x y:Int):Int:=k.wrap (x*2 ^ (min y.toNat k.bits))
def fR(k:IntKind)(x y:Int):Int:=x.fdiv (2 ^ (min y.toNat k.bits))
def tu(f g:Nat->UInt8):Bool:=(List.range 32).all fun i=>f i == g i
def lb{α:Type}(n:Nat)(f:Nat->α):List α:=(List.range n).map f
def tU{α:Type}(f:Nat->α)(i:Int)(v:α):Nat->α:=fun k=>if(k:Int)=i then v else f k
def ry{α:Type}(f:Nat->α)(i:Int):α:=f i.toNat
def JM{α:Type}(f:Nat->α)(i j n:Nat):Nat->α:=fun p=>if i<=p/\p<i+n then f (p-i+j)else f p
def Vm{α:Type}(l:List α)(o:Nat)(x:List α):List α:=l.take o++(x.take (l.length-o)++l.drop (o+x.length))
theorem CJ{α:Type}{l x:List α}{o:Nat}(h:o<=l.length):(Vm l o x).length=l.length:=by
 unfold Vm;simp only[ay,aM,bh];omega
def XJ(f:Nat->UInt8)(i m:Nat)(l:List UInt8):Nat->UInt8:=fun p=>if i<=p/\p<i+m then l.getD (p-i) 0 else f p
def EB{α:Type}(l:List α)(o n:Nat)(z:α):List α:=l.take o++(List.replicate n z++l.drop (o+n))
theorem Io{α:Type}{l:List α}{o n:Nat}{z:α}(h:o+n<=l.length):(EB l o n z).length=l.length:=by
 unfold EB;simp only[ay,aM,bh,aP];omega
def XK(n:Nat)(f:Nat->UInt8)(l:List UInt8):Nat->UInt8:=fun i=>if i<n/\i<l.length then l.getD i 0 else f i
def nP(f:σ->Option (σ⊕α)):Nat->σ->α->Prop
 |0,_,_=>False
 |k+1,s,r=>∃x,f s=some x/\match x with| .inl s'=>nP f k s' r| .inr a=>a=r
theorem nP.det{f:σ->Option (σ⊕α)}:∀{k j:Nat} {s:σ} {r r':α},nP f k s r->nP f j s r'->r=r'
 |0,_,_,_,_,h,_=>h.elim
 |_+1,0,_,_,_,_,h=>h.elim
 |k+1,j+1,s,r,r',⟨x,hx,h⟩,⟨y,hy,h'⟩=>by
  rw[hx]at hy;cases hy
  cases x with
  |inl s'=>exact nP.det h h'
  |inr a=>exact h.symm.trans h'
open Classical in
noncomputable def Iter(f:σ->Option (σ⊕α))(s:σ):Option α:=if h:∃r k,nP f k s r then some h.choose else none
theorem jY{f:σ->Option (σ⊕α)}{s:σ}{r:α}:Iter f s=some r↔∃k,nP f k s r:=by
 unfold Iter;constructor
 . intro h;split at h
   . rename_i hx;cases h;exact hx.choose_spec
   . cases h
 . intro⟨k,hk⟩;have hx:∃r k,nP f k s r:=⟨r,k,hk⟩;rw[dif_pos hx];obtain⟨j,hj⟩:=hx.choose_spec;rw[nP.det hj hk]
def IA(f:σ->Option (σ⊕α))(k:Nat)(r:α):σ⊕α->Prop
 |.inl s'=>∃k',k'<k/\nP f k' s' r
 |.inr a=>a=r
theorem e8{f:σ->Option (σ⊕α)}(I:Nat->σ->Prop)(Q:α->Prop)(round:∀k s,I k s->(∃k' s',f s=some (.inl s')/\k'<k/\I k' s')\/∃a,f s=some (.inr a)/\Q a):∀(k:Nat) (s:σ),I k s->∃r,Iter f s=some r/\Q r:=by
 intro k
 induction k using Nat.strongRecOn with
 |_ k ih=>
  intro s hI
  rcases round k s hI with⟨k',s',hf,hlt,hI'⟩|⟨a,hf,hq⟩
  . obtain⟨r,hr,hq⟩:=ih k' hlt s' hI'
    obtain⟨j,hj⟩:=jY.1 hr
    exact⟨r,jY.2 ⟨j+1,_,hf,hj⟩,hq⟩
  . exact⟨a,jY.2 ⟨1,_,hf,rfl⟩,hq⟩
theorem Ca{f:σ->Option (σ⊕α)}{s s':σ}(h:f s=some (.inl s')):Iter f s=Iter f s':=by
 have key:∀r,Iter f s=some r↔Iter f s'=some r:=fun r=>by
  rw[jY,jY];constructor
  . rintro⟨k,hk⟩
    cases k with
    |zero=>exact hk.elim
    |succ k=>obtain⟨x,hx,hk⟩:=hk;rw[h]at hx;cases hx;exact⟨k,hk⟩
  . rintro⟨k,hk⟩;exact⟨k+1,_,h,hk⟩
 cases e:Iter f s' with
 |some r=>exact(key r).2 e
 |none=>
  cases e':Iter f s with
  |none=>rfl
  |some r=>rw[(key r).1 e']at e;cases e
theorem wP{f:σ->Option (σ⊕α)}{s:σ}{a:α}(h:f s=some (.inr a)):Iter f s=some a:=jY.2 ⟨1,_,h,rfl⟩
open Classical in
noncomputable def agree{γ:Type}(a b:Option γ):Option γ:=if a=b then a else none
theorem KU{γ:Type}(a:Option γ):agree a a=a:=if_pos rfl
def Fix.it{α β:Type}(F:(α->Option β)->α->Option β):Nat->α->Option β
 |0=>fun _=>none
 |k+1=>F (Fix.it F k)
open Classical in
noncomputable def Fix{α β:Type}(F:(α->Option β)->α->Option β)(a:α):Option β:=if h:∃r n,∀m,n<=m->Fix.it F m a=some r then some h.choose else none
theorem Rl{α β:Type}{F:(α->Option β)->α->Option β}{a:α}{r:β}(h:Fix F a=some r):∃k,Fix.it F k a=some r:=by
 unfold Fix at h;split at h
 . rename_i hx;cases h;obtain⟨n,hn⟩:=hx.choose_spec;exact⟨n,hn n (Nat.le_refl _)⟩
 . cases h
theorem Pz{α β:Type}{F:(α->Option β)->α->Option β}(I:Nat->α->Prop)(Q:α->β->Prop)
 (step:∀k x,I k x->∀f g:α->Option β,(∀j y,j<k->I j y->∃r,f y=some r/\g y=some r/\Q y r)->∃r,F f x=some r/\F g x=some r/\Q x r) {k:Nat} {x:α} (hI:I k x):∃r,Fix F x=some r/\Q x r:=by
 have key:∀k n n' x,k<n->k<n'->I k x->∃r,Fix.it F n x=some r/\Fix.it F n' x=some r/\Q x r:=by
  intro k
  induction k using Nat.strongRecOn with
  |_ k ih=>
   intro n n' x hn hn' hI
   match n,n',hn,hn' with
   |n+1,n'+1,hn,hn'=>exact step k x hI _ _ fun j y hj hy=>ih j hj n n' y (by omega) (by omega) hy
 obtain⟨r,h1,_,hq⟩:=key k (k+1) (k+1) x (by omega) (by omega) hI
 have hx:∃r n,∀m,n<=m->Fix.it F m x=some r:=⟨r,k+1,fun m hm=>by
  obtain⟨r',h2,h3,_⟩:=key k (k+1) m x (by omega) (by omega) hI;rw[h1]at h2;cases h2;exact h3⟩
 refine⟨hx.choose,by unfold Fix;rw[dif_pos hx],?_⟩
 obtain⟨n,hn⟩:=hx.choose_spec
 obtain⟨r',h2,h3,hq'⟩:=key k (k+1+n) (k+1+n) x (by omega) (by omega) hI
 rw[hn _ (by omega)]at h2;cases h2;exact hq'
theorem jQ{x:Int}(h1: -9223372036854775808<=x)(h2:x<=9223372036854775807):i64.wrap x=x:=by
 simp only[IntKind.wrap,IntKind.bits,IntKind.signed];simp;split<;>omega
theorem PA{f:σ->Option (σ⊕α)}(n:Nat)(st:Nat->σ)(r:α)(hstep:∀k,k<n->f (st k)=some (.inl (st (k+1))))(hend:f (st n)=some (.inr r)):∀j,j<=n->Iter f (st (n-j))=some r:=by
 intro j
 induction j with
 |zero=>intro _;exact wP hend
 |succ j ih=>
  intro hj
  rw[Ca (hstep (n-(j+1)) (by omega)),show n-(j+1)+1=n-j by omega]
  exact ih (by omega)
theorem jq{f:σ->Option (σ⊕α)}(n:Nat)(st:Nat->σ)(r:α)(hstep:∀k,k<n->f (st k)=some (.inl (st (k+1))))(hend:f (st n)=some (.inr r)){s:σ}(hs:s=st 0):Iter f s=some r:=by
 subst hs;have:=PA n st r hstep hend n (Nat.le_refl _);rwa[Nat.sub_self]at this
theorem fJ{l:List α}{k:Nat}(h:k<l.length):idx l (k:Int)=some l[k]:=by
 unfold idx;rw[if_pos (by omega)];simp[h]
theorem Wk{l:List α}{i:Int}{k:Nat}(hi:i=(k:Int))(h:k<l.length):idx l i=some l[k]:=by subst hi;exact fJ h
theorem nS{b:Nat}{l l':List α}(h:(l.length+l'.length)*b<=140737488355328):app b l l'=some (l++l'):=by unfold app;rw[if_pos h]
theorem MF{l:List α}{i:Int}(h:0<=i/\i<=l.length):jP l i=some (l.drop i.toNat):=by unfold jP;rw[if_pos h]
theorem yi{l:List α}{i:Int}(h:0<=i/\i<=l.length):qO l i=some (l.take i.toNat):=by unfold qO;rw[if_pos h]
theorem QN{l:List α}{i j:Int}(h:0<=i/\i<=j/\j<=l.length):tX l i j=some ((l.take j.toNat).drop i.toNat):=by unfold tX;rw[if_pos h]
theorem Gr{p:Prop}[Decidable p](h:p):nW p=some ():=by unfold nW;rw[if_pos h]
theorem jf{k n:Nat}(h:k<n)(hn:n<=9223372036854775807):i64.wrap ((k:Int)+1)=((k+1:Nat):Int):=by rw[jQ (by omega) (by omega)];omega
def tw(z:α⊕β)(F:α->Option β):Option β:=match z with| .inl v=>F v| .inr a=>some a
@[simp] theorem fX(v:α)(F:α->Option β):tw (.inl v) F=F v:=rfl
@[simp] theorem Ft(a:β)(F:α->Option β):tw (.inr a) F=some a:=rfl
theorem gi{p:Prop}[Decidable p]{u:Unit}(h:nW p=some u):p:=by
 unfold nW at h;split at h
 . assumption
 . cases h
theorem tv{l:List α}{i:Int}{x:α}(h:idx l i=some x):∃j:Nat,i=(j:Int)/\l[j]?=some x:=by
 unfold idx at h;split at h
 . exact⟨i.toNat,by omega,h⟩
 . cases h
theorem yh{l l':List α}{i:Int}(h:jP l i=some l'):∃j:Nat,i=(j:Int)/\j<=l.length/\l'=l.drop j:=by
 unfold jP at h;split at h
 . cases h;exact⟨i.toNat,by omega,by omega,rfl⟩
 . cases h
theorem wv{l l':List α}{i:Int}(h:qO l i=some l'):∃j:Nat,i=(j:Int)/\j<=l.length/\l'=l.take j:=by
 unfold qO at h;split at h
 . cases h;exact⟨i.toNat,by omega,by omega,rfl⟩
 . cases h
theorem A9{l l':List α}{i j:Int}(h:tX l i j=some l'):∃p q:Nat,i=(p:Int)/\j=(q:Int)/\p<=q/\q<=l.length/\l'=(l.take q).drop p:=by
 unfold tX at h;split at h
 . cases h;exact⟨i.toNat,j.toNat,by omega,by omega,by omega,by omega,rfl⟩
 . cases h
theorem nT{b:Nat}{l l' r:List α}(h:app b l l'=some r):(l.length+l'.length)*b<=140737488355328/\r=l++l':=by
 unfold app at h;split at h
 . cases h;exact⟨by assumption,rfl⟩
 . cases h
theorem Xz{x:Int}(h1:0<=x)(h2:x<=18446744073709551615):IntKind.u64.wrap x=x:=by
 simp[IntKind.wrap,IntKind.bits,IntKind.signed];omega
theorem wu8(x:Int):IntKind.u8.wrap x=x % 256:=by
 simp[IntKind.wrap,IntKind.bits,IntKind.signed]
theorem oO(x:Int):((u8 x).toNat:Int)=x % 256:=by
 unfold u8;have h1:(x % 256).toNat<256:=by omega
 rw[UInt8.toNat_ofNat'];omega
theorem Xr(x:Int):IntKind.u8.wrap x=((u8 x).toNat:Int):=by rw[wu8,oO]
def vx(x y:Int):Bool:=decide (x=y)
def Ut(x y:List UInt8):Bool:=decide (x=y)
section
variable {κ ν:Type}
def gI(eq:κ->κ->Bool)(l:List (κ×ν))(k:κ):Option ν:=(l.find? fun p=>eq k p.1).map (·.2)
def mG(eq:κ->κ->Bool)(l:List (κ×ν))(k:κ)(v:ν):List (κ×ν):=if(l.any fun p=>eq k p.1)=true then l.map (fun p=>if eq k p.1=true then(k,v)else p)else l++[(k,v)]
def Zk(eq:κ->κ->Bool)(l:List (κ×ν))(k:κ):List (κ×ν):=l.filter fun p=>!eq k p.1
def LX(eq:κ->κ->Bool)(l:List (κ×ν))(k:κ)(z:ν):List (κ×ν):=if(l.any fun p=>eq k p.1)=true then l else l++[(k,z)]
end
noncomputable def vu{ι γ:Type}(P:ι->Prop)(k:ι->Option γ):Option γ:=
 @dite _ ((∃i,P i)/\∃r,∀i,P i->k i=some r) (Classical.propDecidable _) (fun h=>some (Classical.choose h.2)) fun _=>none
theorem Ce{ι γ:Type}{P:ι->Prop}{k:ι->Option γ}{r:γ}(h:vu P k=some r):(∃i,P i)/\∀i,P i->k i=some r:=by
 unfold vu at h;split at h
 . rename_i hp;have:=ax h;exact⟨hp.1,by rw[<- this];exact Classical.choose_spec hp.2⟩
 . cases h
theorem IL{ι γ:Type}{P:ι->Prop}{k:ι->Option γ}{r:γ}(h0:∃i,P i)(h:∀i,P i->k i=some r):vu P k=some r:=by
 have hp:(∃i,P i)/\∃r,∀i,P i->k i=some r:=⟨h0,r,h⟩;unfold vu;rw[dif_pos hp];obtain⟨i,hi⟩:=h0;have:=Classical.choose_spec hp.2 i hi;rw[h i hi]at this;exact this.symm
theorem PD{ι γ γ':Type}{P:ι->Prop}{φ:γ->γ'}(hφ:∀x y,φ x=φ y->x=y){k:ι->Option γ}{k':ι->Option γ'}(hk:∀i,k' i=(k i).map φ):vu P k'=(vu P k).map φ:=by
 by_cases h:(∃i,P i)/\∃r,∀i,P i->k i=some r
 . obtain⟨h0,r,h1⟩:=h;rw[IL h0 h1,IL (r:=φ r) h0 fun i hi=>by rw[hk,h1 i hi];rfl];rfl
 . have e:vu P k=none:=by unfold vu;rw[dif_neg h]
   rw[e]
   cases h':vu P k' with
   |none=>rfl
   |some r'=>
    obtain⟨h0,h1⟩:=Ce h'
    refine absurd ⟨h0,?_⟩ h
    obtain⟨i,hi⟩:=h0
    have h2:=h1 i hi
    rw[hk]at h2
    obtain⟨r,hr,rfl⟩:=ab.1 h2
    refine⟨r,fun j hj=>?_⟩
    have h3:=h1 j hj
    rw[hk]at h3
    obtain⟨r2,hr2,e2⟩:=ab.1 h3
    rw[hr2,hφ _ _ e2]
def qK{κ σ α:Type}(f:κ->σ->Option (σ⊕α))(e:σ->Option α):List κ->σ->Option α
 |[],s=>e s
 |x::l,s=>(f x s).bind fun y=>match y with
  |.inl s'=>qK f e l s'
  |.inr r=>some r
theorem FI{κ σ α β:Type}{φ:α->β}{f:κ->σ->Option (σ⊕α)}{f':κ->σ->Option (σ⊕β)}{e:σ->Option α}{e':σ->Option β}(hf:∀x s,f' x s=(f x s).map (Sum.map id φ))(he:∀s,e' s=(e s).map φ):∀(l:List κ) (s:σ),qK f' e' l s=(qK f e l s).map φ
 |[],s=>he s
 |x::l,s=>by
  simp only[qK,hf]
  cases f x s with
  |none=>rfl
  |some y=>
   cases y with
   |inl s'=>exact FI hf he l s'
   |inr r=>rfl
end G
end
section
open G
theorem N3{α:Type}(l:List α)(i:Nat)(d:α)(h:i<l.length):l.getD i d=l[i]:=by simp[h]
theorem yJ{σ α γ:Type}{f:σ->Option (σ⊕α)}(l:List γ)(bad:γ->Bool)(st:Nat->σ)(ex:Nat->α)(fin:α)
 (hstep:∀k (h:k<l.length),bad l[k]=false->f (st k)=some (.inl (st (k+1))))
 (hbad:∀k (h:k<l.length),bad l[k]=true->f (st k)=some (.inr (ex k)))
 (hend:f (st l.length)=some (.inr fin)) {s:σ} (hs:s=st 0):
 ((∀x∈l,bad x=false)/\Iter f s=some fin)\/∃k,∃h:k<l.length,bad l[k]=true/\(∀j (hj:j<k),bad (l[j]'(by omega))=false)/\Iter f s=some (ex k):=by
 by_cases hx:l.findIdx bad<l.length
 . refine .inr ⟨_,hx,List.findIdx_getElem,fun j hj=>by simpa using List.not_of_lt_findIdx hj,?_⟩
   exact jq _ st _ (fun k hk=>hstep k (by omega) (by simpa using List.not_of_lt_findIdx hk)) (hbad _ hx List.findIdx_getElem) hs
 . have hall:∀x∈l,bad x=false:=by
    rw[List.findIdx_lt_length]at hx;intro x hm
    cases e:bad x with
    |false=>rfl
    |true=>exact absurd ⟨x,hm,e⟩ hx
   exact .inl ⟨hall,jq l.length st fin (fun k hk=>hstep k hk (hall _ (aR hk))) hend hs⟩
structure RS where
 bs:List UInt8
 at_:Nat
 code:Int
 pos:Int
namespace RS
def fail(s:RS)(code pos:Int):RS:=if s.code=0/\code≠0 then{s with code:=code,pos:=pos}else s
def take(s:RS)(n:Int):Option (List UInt8)×RS:=
 if s.code≠0 then(none,s)
 else if n<0 then(none,s.fail 2 s.at_)
 else if(s.bs.length:Int)-s.at_<n then(none,s.fail 8 s.bs.length)
 else(some ((s.bs.drop s.at_).take n.toNat),{s with at_:=s.at_+n.toNat})
def Ok(s:RS):Prop:=s.at_<=s.bs.length
def num(l:List UInt8):Nat:=l.foldl (fun x c=>256*x+c.toNat) 0
def size(n:Int):Int:=if n<1\/8<n then -1 else n
def uint(s:RS)(n:Int):Nat×RS:=
 match s.take (size n)with
 |(some l,s')=>(num l,s')
 |(none,s')=>(0,s')
def length(s:RS):Int×RS:=
 if 4611686018427387903<(s.uint 8).1 then(0,(s.uint 8).2.fail 2 s.at_)else(((s.uint 8).1:Int),(s.uint 8).2)
def bytes(s:RS)(n:Int):List UInt8×RS:=
 match s.take n with
 |(some l,s')=>(l,s')
 |(none,s')=>([],s')
def expect(s:RS)(b:List UInt8)(code:Int):Bool×RS:=
 if s.code≠0 then(false,s)
 else if((s.bs.drop s.at_).take b.length)≠b.take ((s.bs.drop s.at_).take b.length).length then(false,s.fail code s.at_)
 else((s.take b.length).1.isSome,(s.take b.length).2)
theorem jH(s:RS)(c p:Int):(s.fail c p).bs=s.bs/\(s.fail c p).at_=s.at_:=by unfold fail;split<;>exact⟨rfl,rfl⟩
theorem NY(s:RS)(h:s.Ok)(c p:Int):(s.fail c p).Ok:=by unfold Ok;rw[(jH s c p).1,(jH s c p).2];exact h
theorem Ku(s:RS)(h:s.code≠0)(n:Int):s.take n=(none,s):=by unfold take;rw[if_pos h]
theorem Kv(s:RS)(h:s.code=0)(n:Int)(hn:n<0):s.take n=(none,s.fail 2 s.at_):=by unfold take;rw[if_neg (fun k=>k h),if_pos hn]
theorem Ej(s:RS)(h:s.code=0)(n:Int)(hn:0<=n)(hs:(s.bs.length:Int)-s.at_<n):s.take n=(none,s.fail 8 s.bs.length):=by
 unfold take;rw[if_neg (fun k=>k h),if_neg (by omega),if_pos hs]
theorem uY(s:RS)(h:s.code=0)(n:Nat)(hs:s.at_+n<=s.bs.length):s.take n=(some ((s.bs.drop s.at_).take n),{s with at_:=s.at_+n}):=by
 unfold take;rw[if_neg (fun k=>k h),if_neg (by omega),if_neg (by omega)];simp
theorem lL(s:RS)(h:s.Ok)(n:Int):(s.take n).2.Ok:=by
 unfold take;split
 . exact h
 . split
   . exact NY s h _ _
   . split
     . exact NY s h _ _
     . unfold Ok at *; simp only;omega
theorem B1(s:RS)(n:Int):(s.take n).2.bs=s.bs:=by
 unfold take;split
 . rfl
 . split
   . exact(jH s _ _).1
   . split
     . exact(jH s _ _).1
     . rfl
theorem HH(s:RS){n:Int}{l:List UInt8}(he:(s.take n).1=some l):l.length<=s.bs.length:=by
 unfold take at he;split at he
 . cases he
 . split at he
   . cases he
   . split at he
     . cases he
     . simp only[af]at he;subst he;simp;omega
theorem HG(s:RS){n:Int}{l:List UInt8}(he:(s.take (size n)).1=some l):l.length<=8:=by
 unfold take at he;split at he
 . cases he
 . split at he
   . cases he
   . split at he
     . cases he
     . simp only[af]at he;subst he;rename_i h1 _;unfold size at h1 ⊢;split at h1<;>simp<;>split<;>omega
theorem qR(s:RS){n:Int}{l:List UInt8}(h:(s.take (size n)).1=some l):s.uint n=(num l,(s.take (size n)).2):=by
 unfold uint;split<;>rename_i e<;>rw[e]at h ⊢ <;>cases h;rfl
theorem Ak(s:RS){n:Int}(h:(s.take (size n)).1=none):s.uint n=(0,(s.take (size n)).2):=by
 unfold uint;split<;>rename_i e<;>rw[e]at h ⊢ <;>cases h
theorem Cs(s:RS){n:Int}{l:List UInt8}(h:(s.take n).1=some l):s.bytes n=(l,(s.take n).2):=by
 unfold bytes;split<;>rename_i e<;>rw[e]at h ⊢ <;>cases h;rfl
theorem K6(s:RS){n:Int}(h:(s.take n).1=none):s.bytes n=([],(s.take n).2):=by
 unfold bytes;split<;>rename_i e<;>rw[e]at h ⊢ <;>cases h
theorem uu(s:RS)(n:Int):(s.bytes n).2=(s.take n).2:=by
 unfold bytes;split<;>rename_i h<;>rw[h]
theorem Cr(s:RS)(n:Int):(s.bytes n).2.bs=s.bs:=by rw[uu,B1]
theorem yw(s:RS)(n:Int):(s.uint n).2=(s.take (size n)).2:=by
 unfold uint;split<;>rename_i h<;>rw[h]
theorem pK(s:RS)(n:Int):(s.uint n).2.bs=s.bs:=by rw[yw,B1]
theorem l9(s:RS):s.length.2.bs=s.bs:=by
 unfold length;split
 . rw[(jH _ _ _).1,pK]
 . exact pK s 8
theorem Fh(s:RS)(b:List UInt8)(c:Int):(s.expect b c).2.bs=s.bs:=by
 unfold expect;split
 . rfl
 . split
   . exact(jH _ _ _).1
   . exact B1 _ _
theorem Dt(l:List UInt8)(c:UInt8):num (l++[c])=256*num l+c.toNat:=by simp[num]
theorem L9(l:List UInt8):num l<256 ^ l.length:=by
 have h:∀(m:List UInt8),num m.reverse<256 ^ m.length:=by
  intro m
  induction m with
  |nil=>decide
  |cons c m ih=>
   rw[List.reverse_cons,Dt,bw,Nat.pow_succ]
   have:=c.toNat_lt
   omega
 have:=h l.reverse;simpa using this
theorem JS(l:List UInt8)(k:Nat)(hk:k<l.length)(hl:l.length<=8):num (l.take k)<72057594037927936:=by
 have h1:=L9 (l.take k);have h2:(l.take k).length=k:=by simp;omega
 rw[h2]at h1;have h3:256 ^ k<=256 ^ 7:=Nat.pow_le_pow_right (by omega) (by omega);have h4:256 ^ 7=72057594037927936:=by decide
 omega
theorem ES(l:List UInt8)(k:Nat)(hk:k<l.length):num (l.take (k+1))=256*num (l.take k)+(l.getD k 0).toNat:=by
 rw[List.take_succ_eq_append_getElem hk,Dt,N3 _ _ _ hk]
end RS
def be:Nat->Nat->List UInt8
 |0,_=>[]
 |k+1,v=>UInt8.ofNat (v/256 ^ k)::be k v
theorem lh:∀(k v:Nat),(be k v).length=k
 |0,_=>rfl
 |k+1,v=>by simp[be,lh k v]
theorem Nl:∀(k v x:Nat),(be k v).foldl (fun x c=>256*x+c.toNat) x=x*256 ^ k+v % 256 ^ k
 |0,v,x=>by simp[be,Nat.mod_one]
 |k+1,v,x=>by
  simp only[be,List.foldl_cons];have e:v % 256 ^ (k+1)=v % 256 ^ k+256 ^ k*(v/256 ^ k % 256):=Nat.mod_pow_succ;rw[Nl k v,UInt8.toNat_ofNat',e];have:(2:Nat) ^ 8=256:=rfl;rw[this,Nat.pow_succ];generalize v/256 ^ k % 256=d;generalize 256 ^ k=p;generalize v % p=e;rw[aN,Nat.mul_comm p d,Nat.mul_comm p 256,<- Nat.mul_assoc,Nat.mul_comm x 256];omega
theorem Zq{k v:Nat}(h:v<256 ^ k):RS.num (be k v)=v:=by
 unfold RS.num;rw[Nl,Nat.zero_mul,aL,Nat.mod_eq_of_lt h]
theorem UD(n:Nat):u8 (n:Int)=UInt8.ofNat n:=by
 apply UInt8.toNat.inj;have:=oO (n:Int);rw[UInt8.toNat_ofNat'];omega
theorem byteOf(v k:Nat)(hk:k<=8):u8 (fR .u64 (v:Int) (8*(k:Int)))=UInt8.ofNat (v/256 ^ k):=by
 unfold fR;have e:min (8*(k:Int)).toNat IntKind.u64.bits=8*k:=by show min _ 64=_;omega
 rw[e,Int.fdiv_eq_ediv_of_nonneg _ (by exact_mod_cast Nat.zero_le _)];have e2:((2:Int) ^ (8*k))=((256 ^ k:Nat):Int):=by rw[Int.pow_mul,Int.natCast_pow];rfl
 rw[e2,<- Int.natCast_ediv,UD]
end
section
open IntKind(i64)
namespace G
theorem dP{α:Type}{l:List α}{k:Nat}(d:α)(h:k<l.length):idx l (k:Int)=some (l.getD k d):=by rw[fJ h];simp[h]
theorem uF{α:Type}{l:List α}{i:Int}{k:Nat}(d:α)(hi:i=(k:Int))(h:k<l.length):idx l i=some (l.getD k d):=by subst hi;exact dP d h
theorem mE{α:Type}{l:List α}{i:Int}{k:Nat}(hi:i=(k:Int))(h:k<l.length):∃x,idx l i=some x:=⟨_,Wk hi h⟩
theorem Np{α:Type}(x:Option α):(x.bind fun y=>some y)=x:=by cases x<;>rfl
theorem kP{σ α γ:Type}{f:σ->Option (σ⊕α)}(l:List γ)(bad:γ->Bool)(st:Nat->σ)(ex:Nat->α)(fin:α)
 (hstep:∀k (h:k<l.length),bad l[k]=false->f (st k)=some (.inl (st (k+1))))
 (hbad:∀k (h:k<l.length),bad l[k]=true->f (st k)=some (.inr (ex k)))
 (hend:f (st l.length)=some (.inr fin)) {s:σ} (hs:s=st 0):
 ((∀x∈l,bad x=false)/\Iter f s=some fin)\/∃k,∃h:k<l.length,bad l[k]=true/\(∀j (hj:j<k),bad (l[j]'(by omega))=false)/\Iter f s=some (ex k):=by
 by_cases hx:l.findIdx bad<l.length
 . refine .inr ⟨_,hx,List.findIdx_getElem,fun j hj=>by simpa using List.not_of_lt_findIdx hj,?_⟩
   exact jq _ st _ (fun k hk=>hstep k (by omega) (by simpa using List.not_of_lt_findIdx hk)) (hbad _ hx List.findIdx_getElem) hs
 . have hall:∀x∈l,bad x=false:=by
    rw[List.findIdx_lt_length]at hx;intro x hm
    cases e:bad x with
    |false=>rfl
    |true=>exact absurd ⟨x,hm,e⟩ hx
   exact .inl ⟨hall,jq l.length st fin (fun k hk=>hstep k hk (hall _ (aR hk))) hend hs⟩
theorem KB{k:Nat}(h:k<=9223372036854775807):i64.wrap (k:Int)=(k:Int):=jQ (by omega) (by omega)
theorem Zl{x:Int}{k:Nat}(hx:x=(k:Int))(h:k<=9223372036854775807):i64.wrap (fR .u64 (IntKind.u64.wrap (i64.wrap x)) 1)=((k/2:Nat):Int):=by
 subst hx;rw[KB h,show IntKind.u64.wrap (k:Int)=(k:Int)by simp only[IntKind.wrap,IntKind.bits,IntKind.signed];simp;omega];have:fR .u64 (k:Int) 1=((k/2:Nat):Int):=by
  unfold fR;rw[show(2:Int) ^ (min (1:Int).toNat IntKind.u64.bits)=2 from rfl,Int.fdiv_eq_ediv_of_nonneg _ (by omega)];omega
 rw[this,KB (by omega)]
end G
end
section
structure G.cv where
 x:Int
 y:Int
 signed:Bool
 code:UInt8
 deriving DecidableEq,Inhabited
structure G.jV where
 x:Int
 y:Int
 signed:Bool
 code:UInt8
 deriving DecidableEq,Inhabited
structure G.eD where
 msg:List UInt8
 addr:Int
 deriving DecidableEq,Inhabited
structure G.fK where
 msg:List UInt8
 addr:Int
 deriving DecidableEq,Inhabited
structure G.ga where
 code:Int
 at_:Int
 deriving DecidableEq,Inhabited
structure G.bH where
 kind:Int
 to:Int
 dN:Int
 len:Int
 data:List UInt8
 deriving DecidableEq,Inhabited
def G.bH.Ok(x:G.bH):Prop:=EC x.kind/\EC x.to/\EC x.dN/\EC x.len/\Len x.data
structure G.bV where
 cD:Int
 bW:Int
 mw:Nat->UInt8
 mu:Nat->UInt8
 bG:List G.bH
 deriving Inhabited
def G.bV.Ok(x:G.bV):Prop:=EC x.cD/\EC x.bW/\(Len x.bG/\∀y∈x.bG,G.bH.Ok y)
structure G.dj where
 off:Int
 len:Int
 deriving DecidableEq,Inhabited
structure G.jG where
 state:Int
 abm:Int
 writes:Int
 fault:G.ga
 deriving DecidableEq,Inhabited
structure G.mV where
 RF:List G.jG
 done:Bool
 aco:Int
 deriving DecidableEq,Inhabited
structure G.nV where
 writes:Int
 ox:Int
 deriving DecidableEq,Inhabited
structure G.cL where
 value:Int
 size:Int
 deriving DecidableEq,Inhabited
structure G.dt where
 b:List UInt8
 at_:Int
 fault:G.ga
 deriving DecidableEq,Inhabited
structure G.eO where
 b:List UInt8
 at_:Int
 fault:G.ga
 deriving DecidableEq,Inhabited
structure G.bL where
 position:G.eO
 deriving DecidableEq,Inhabited
structure G.jt where
 CR:G.dj
 deriving DecidableEq,Inhabited
end
end Go.Proofs.YtjfkdglgecgjfaaGreat
