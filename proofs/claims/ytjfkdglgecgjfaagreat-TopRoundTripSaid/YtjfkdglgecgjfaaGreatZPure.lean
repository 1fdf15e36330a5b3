/- Part of the proof. -/
import Derived.Test.YtjfkdglgecgjfaaGreatZa0
import Derived.Lib.Index
import GoSem.Core.View
namespace Go.Proofs.YtjfkdglgecgjfaaGreat
section
open IntKind(i64)
namespace G
variable {α β σ:Type}
def Br(x:Int):Prop:= -9223372036854775808<=x/\x<=9223372036854775807
def XK{α:Type}(l:List α):Prop:=l.length<=9223372036854775807
def idx(l:List α)(i:Int):Option α:=if 0<=i then l[i.toNat]? else none
def jY(l:List α)(i:Int):Option (List α):=if 0<=i/\i<=l.length then some (l.drop i.toNat)else none
def pK(l:List α)(j:Int):Option (List α):=if 0<=j/\j<=l.length then some (l.take j.toNat)else none
def tz(l:List α)(i j:Int):Option (List α):=if 0<=i/\i<=j/\j<=l.length then some ((l.take j.toNat).drop i.toNat)else none
def app(b:Nat)(l l':List α):Option (List α):=if(l.length+l'.length)*b<=140737488355328 then some (l++l')else none
def l9(p:Prop)[Decidable p]:Option Unit:=if p then some ()else none
def u8(x:Int):UInt8:=UInt8.ofNat (x % 256).toNat
def j9(a b:Int):Int:=if b<a then b else a
def imax(a b:Int):Int:=if a<b then b else a
def G4(k:IntKind)(a b:Int):Int:=k.wrap ((BitVec.ofInt k.bits a &&& BitVec.ofInt k.bits b).toNat:Nat)
def Ug(k:IntKind)(a b:Int):Int:=k.wrap ((BitVec.ofInt k.bits a ||| BitVec.ofInt k.bits b).toNat:Nat)
def Lw(k:IntKind)(a b:Int):Int:=k.wrap ((BitVec.ofInt k.bits a ^^^ BitVec.ofInt k.bits b).toNat:Nat)
def Jc(k:IntKind)(a b:Int):Int:=k.wrap ((BitVec.ofInt k.bits a &&& ~~~(BitVec.ofInt k.bits b)).toNat:Nat)
def xK(k:IntKind)(x y:Int):Int:=k.wrap (x*2 ^ (min y.toNat k.bits))
def o7(k:IntKind)(x y:Int):Int:=x.fdiv (2 ^ (min y.toNat k.bits))
def ic(f g:Nat->UInt8):Bool:=(List.range 32).all fun i=>f i == g i
def gl{α:Type}(n:Nat)(f:Nat->α):List α:=(List.range n).map f
def qR{α:Type}(f:Nat->α)(i:Int)(v:α):Nat->α:=fun k=>if(k:Int)=i then v else f k
def oM{α:Type}(f:Nat->α)(i:Int):α:=f i.toNat
def FT{α:Type}(f:Nat->α)(i j n:Nat):Nat->α:=fun p=>if i<=p/\p<i+n then f (p-i+j)else f p
def QM{α:Type}(l:List α)(o:Nat)(x:List α):List α:=l.take o++(x.take (l.length-o)++l.drop (o+x.length))
theorem zk{α:Type}{l x:List α}{o:Nat}(h:o<=l.length):(QM l o x).length=l.length:=by
 unfold QM;simp only[ay,aH,ba];omega
def TA(f:Nat->UInt8)(i m:Nat)(l:List UInt8):Nat->UInt8:=fun p=>if i<=p/\p<i+m then l.getD (p-i) 0 else f p
def Bp{α:Type}(l:List α)(o n:Nat)(z:α):List α:=l.take o++(List.replicate n z++l.drop (o+n))
theorem ED{α:Type}{l:List α}{o n:Nat}{z:α}(h:o+n<=l.length):(Bp l o n z).length=l.length:=by
 unfold Bp;simp only[ay,aH,ba,aO];omega
def Jq(n:Nat)(f:Nat->UInt8)(l:List UInt8):Nat->UInt8:=fun i=>if i<n/\i<l.length then l.getD i 0 else f i
def lx(f:σ->Option (σ⊕α)):Nat->σ->α->Prop
 |0,_,_=>False
 |k+1,s,r=>∃x,f s=some x/\match x with| .inl s'=>lx f k s' r| .inr a=>a=r
theorem lx.Yw{f:σ->Option (σ⊕α)}:∀{k j:Nat} {s:σ} {r r':α},lx f k s r->lx f j s r'->r=r'
 |0,_,_,_,_,h,_=>h.elim
 |_+1,0,_,_,_,_,h=>h.elim
 |k+1,j+1,s,r,r',⟨x,hx,h⟩,⟨y,hy,h'⟩=>by
  rw[hx]at hy;cases hy
  cases x with
  |inl s'=>exact lx.Yw h h'
  |inr a=>exact h.symm.trans h'
open Classical in
noncomputable def Iter(f:σ->Option (σ⊕α))(s:σ):Option α:=if h:∃r k,lx f k s r then some h.choose else none
theorem lu{f:σ->Option (σ⊕α)}{s:σ}{r:α}:Iter f s=some r↔∃k,lx f k s r:=by
 unfold Iter;constructor
 . intro h;split at h
   . rename_i hx;cases h;exact hx.choose_spec
   . cases h
 . intro⟨k,hk⟩;have hx:∃r k,lx f k s r:=⟨r,k,hk⟩;rw[dif_pos hx];obtain⟨j,hj⟩:=hx.choose_spec;rw[lx.Yw hj hk]
def EL(f:σ->Option (σ⊕α))(k:Nat)(r:α):σ⊕α->Prop
 |.inl s'=>∃k',k'<k/\lx f k' s' r
 |.inr a=>a=r
theorem yE{f:σ->Option (σ⊕α)}{s s':σ}(h:f s=some (.inl s')):Iter f s=Iter f s':=by
 have key:∀r,Iter f s=some r↔Iter f s'=some r:=fun r=>by
  rw[lu,lu];constructor
  . rintro⟨k,hk⟩
    cases k with
    |zero=>exact hk.elim
    |succ k=>obtain⟨x,hx,hk⟩:=hk;rw[h]at hx;cases hx;exact⟨k,hk⟩
  . rintro⟨k,hk⟩;exact⟨k+1,_,h,hk⟩
 cases e:Iter f s' with
 |some r=>exact(key r).2 e
 |none=>
  cases e':Iter f s with
  |none=>rfl
  |some r=>rw[(key r).1 e']at e;cases e
theorem tQ{f:σ->Option (σ⊕α)}{s:σ}{a:α}(h:f s=some (.inr a)):Iter f s=some a:=lu.2 ⟨1,_,h,rfl⟩
open Classical in
noncomputable def agree{γ:Type}(a b:Option γ):Option γ:=if a=b then a else none
theorem G1{γ:Type}(a:Option γ):agree a a=a:=if_pos rfl
theorem Bq{x:Int}(h1: -9223372036854775808<=x)(h2:x<=9223372036854775807):i64.wrap x=x:=by
 simp only[IntKind.wrap,IntKind.bits,IntKind.signed];simp;split<;>omega
theorem Lh{f:σ->Option (σ⊕α)}(n:Nat)(st:Nat->σ)(r:α)(hstep:∀k,k<n->f (st k)=some (.inl (st (k+1))))(hend:f (st n)=some (.inr r)):∀j,j<=n->Iter f (st (n-j))=some r:=by
 intro j
 induction j with
 |zero=>intro _;exact tQ hend
 |succ j ih=>
  intro hj
  rw[yE (hstep (n-(j+1)) (by omega)),show n-(j+1)+1=n-j by omega]
  exact ih (by omega)
theorem iM{f:σ->Option (σ⊕α)}(n:Nat)(st:Nat->σ)(r:α)(hstep:∀k,k<n->f (st k)=some (.inl (st (k+1))))(hend:f (st n)=some (.inr r)){s:σ}(hs:s=st 0):Iter f s=some r:=by
 subst hs;have:=Lh n st r hstep hend n (Nat.le_refl _);rwa[Nat.sub_self]at this
theorem iU{l:List α}{k:Nat}(h:k<l.length):idx l (k:Int)=some l[k]:=by
 unfold idx;rw[if_pos (by omega)];simp[h]
theorem n8{b:Nat}{l l':List α}(h:(l.length+l'.length)*b<=140737488355328):app b l l'=some (l++l'):=by unfold app;rw[if_pos h]
theorem Iy{l:List α}{i:Int}(h:0<=i/\i<=l.length):jY l i=some (l.drop i.toNat):=by unfold jY;rw[if_pos h]
theorem Gs{l:List α}{i:Int}(h:0<=i/\i<=l.length):pK l i=some (l.take i.toNat):=by unfold pK;rw[if_pos h]
theorem ME{l:List α}{i j:Int}(h:0<=i/\i<=j/\j<=l.length):tz l i j=some ((l.take j.toNat).drop i.toNat):=by unfold tz;rw[if_pos h]
theorem Hb{p:Prop}[Decidable p](h:p):l9 p=some ():=by unfold l9;rw[if_pos h]
theorem sB{k n:Nat}(h:k<n)(hn:n<=9223372036854775807):i64.wrap ((k:Int)+1)=((k+1:Nat):Int):=by rw[Bq (by omega) (by omega)];omega
def xj(z:α⊕β)(F:α->Option β):Option β:=match z with| .inl v=>F v| .inr a=>some a
@[simp] theorem nK(v:α)(F:α->Option β):xj (.inl v) F=F v:=rfl
@[simp] theorem V0(a:β)(F:α->Option β):xj (.inr a) F=some a:=rfl
theorem eO{p:Prop}[Decidable p]{u:Unit}(h:l9 p=some u):p:=by
 unfold l9 at h;split at h
 . assumption
 . cases h
theorem qy{l:List α}{i:Int}{x:α}(h:idx l i=some x):∃j:Nat,i=(j:Int)/\l[j]?=some x:=by
 unfold idx at h;split at h
 . exact⟨i.toNat,by omega,h⟩
 . cases h
theorem uZ{l l':List α}{i:Int}(h:jY l i=some l'):∃j:Nat,i=(j:Int)/\j<=l.length/\l'=l.drop j:=by
 unfold jY at h;split at h
 . cases h;exact⟨i.toNat,by omega,by omega,rfl⟩
 . cases h
theorem tA{l l':List α}{i:Int}(h:pK l i=some l'):∃j:Nat,i=(j:Int)/\j<=l.length/\l'=l.take j:=by
 unfold pK at h;split at h
 . cases h;exact⟨i.toNat,by omega,by omega,rfl⟩
 . cases h
theorem Gr{l l':List α}{i j:Int}(h:tz l i j=some l'):∃p q:Nat,i=(p:Int)/\j=(q:Int)/\p<=q/\q<=l.length/\l'=(l.take q).drop p:=by
 unfold tz at h;split at h
 . cases h;exact⟨i.toNat,j.toNat,by omega,by omega,by omega,by omega,rfl⟩
 . cases h
theorem nr{b:Nat}{l l' r:List α}(h:app b l l'=some r):(l.length+l'.length)*b<=140737488355328/\r=l++l':=by
 unfold app at h;split at h
 . cases h;exact⟨by assumption,rfl⟩
 . cases h
theorem Tp{x:Int}(h1:0<=x)(h2:x<=18446744073709551615):IntKind.u64.wrap x=x:=by
 simp[IntKind.wrap,IntKind.bits,IntKind.signed];omega
theorem YO(x:Int):IntKind.u8.wrap x=x % 256:=by
 simp[IntKind.wrap,IntKind.bits,IntKind.signed]
theorem l7(x:Int):((u8 x).toNat:Int)=x % 256:=by
 unfold u8;have h1:(x % 256).toNat<256:=by omega
 rw[UInt8.toNat_ofNat'];omega
theorem Tg(x:Int):IntKind.u8.wrap x=((u8 x).toNat:Int):=by rw[YO,l7]
def sC(x y:Int):Bool:=decide (x=y)
def PY(x y:List UInt8):Bool:=decide (x=y)
section
variable {κ ν:Type}
def fh(eq:κ->κ->Bool)(l:List (κ×ν))(k:κ):Option ν:=(l.find? fun p=>eq k p.1).map (·.2)
def ka(eq:κ->κ->Bool)(l:List (κ×ν))(k:κ)(v:ν):List (κ×ν):=if(l.any fun p=>eq k p.1)=true then l.map (fun p=>if eq k p.1=true then(k,v)else p)else l++[(k,v)]
def Vh(eq:κ->κ->Bool)(l:List (κ×ν))(k:κ):List (κ×ν):=l.filter fun p=>!eq k p.1
def HQ(eq:κ->κ->Bool)(l:List (κ×ν))(k:κ)(z:ν):List (κ×ν):=if(l.any fun p=>eq k p.1)=true then l else l++[(k,z)]
end
noncomputable def sy{ι γ:Type}(P:ι->Prop)(k:ι->Option γ):Option γ:=
 @dite _ ((∃i,P i)/\∃r,∀i,P i->k i=some r) (Classical.propDecidable _) (fun h=>some (Classical.choose h.2)) fun _=>none
theorem yH{ι γ:Type}{P:ι->Prop}{k:ι->Option γ}{r:γ}(h:sy P k=some r):(∃i,P i)/\∀i,P i->k i=some r:=by
 unfold sy at h;split at h
 . rename_i hp;have:=au h;exact⟨hp.1,by rw[<- this];exact Classical.choose_spec hp.2⟩
 . cases h
theorem EU{ι γ:Type}{P:ι->Prop}{k:ι->Option γ}{r:γ}(h0:∃i,P i)(h:∀i,P i->k i=some r):sy P k=some r:=by
 have hp:(∃i,P i)/\∃r,∀i,P i->k i=some r:=⟨h0,r,h⟩;unfold sy;rw[dif_pos hp];obtain⟨i,hi⟩:=h0;have:=Classical.choose_spec hp.2 i hi;rw[h i hi]at this;exact this.symm
theorem Lj{ι γ γ':Type}{P:ι->Prop}{φ:γ->γ'}(hφ:∀x y,φ x=φ y->x=y){k:ι->Option γ}{k':ι->Option γ'}(hk:∀i,k' i=(k i).map φ):sy P k'=(sy P k).map φ:=by
 by_cases h:(∃i,P i)/\∃r,∀i,P i->k i=some r
 . obtain⟨h0,r,h1⟩:=h;rw[EU h0 h1,EU (r:=φ r) h0 fun i hi=>by rw[hk,h1 i hi];rfl];rfl
 . have e:sy P k=none:=by unfold sy;rw[dif_neg h]
   rw[e]
   cases h':sy P k' with
   |none=>rfl
   |some r'=>
    obtain⟨h0,h1⟩:=yH h'
    refine absurd ⟨h0,?_⟩ h
    obtain⟨i,hi⟩:=h0
    have h2:=h1 i hi
    rw[hk]at h2
    obtain⟨r,hr,rfl⟩:=ab.1 h2
    refine⟨r,fun j hj=>?_⟩
    have h3:=h1 j hj
    rw[hk]at h3
    obtain⟨r2,hr2,e2⟩:=ab.1 h3
    rw[hr2,hφ _ _ e2]
def nP{κ σ α:Type}(f:κ->σ->Option (σ⊕α))(e:σ->Option α):List κ->σ->Option α
 |[],s=>e s
 |x::l,s=>(f x s).bind fun y=>match y with
  |.inl s'=>nP f e l s'
  |.inr r=>some r
theorem Cl{κ σ α β:Type}{φ:α->β}{f:κ->σ->Option (σ⊕α)}{f':κ->σ->Option (σ⊕β)}{e:σ->Option α}{e':σ->Option β}(hf:∀x s,f' x s=(f x s).map (Sum.map id φ))(he:∀s,e' s=(e s).map φ):∀(l:List κ) (s:σ),nP f' e' l s=(nP f e l s).map φ
 |[],s=>he s
 |x::l,s=>by
  simp only[nP,hf]
  cases f x s with
  |none=>rfl
  |some y=>
   cases y with
   |inl s'=>exact Cl hf he l s'
   |inr r=>rfl
end G
end
section
open G
theorem yf{α:Type}(l:List α)(i:Nat)(d:α)(h:i<l.length):l.getD i d=l[i]:=by simp[h]
theorem nm{σ α γ:Type}{f:σ->Option (σ⊕α)}(l:List γ)(bad:γ->Bool)(st:Nat->σ)(ex:Nat->α)(fin:α)
 (hstep:∀k (h:k<l.length),bad l[k]=false->f (st k)=some (.inl (st (k+1))))
 (hbad:∀k (h:k<l.length),bad l[k]=true->f (st k)=some (.inr (ex k)))
 (hend:f (st l.length)=some (.inr fin)) {s:σ} (hs:s=st 0):
 ((∀x∈l,bad x=false)/\Iter f s=some fin)\/∃k,∃h:k<l.length,bad l[k]=true/\(∀j (hj:j<k),bad (l[j]'(by omega))=false)/\Iter f s=some (ex k):=by
 by_cases hx:l.findIdx bad<l.length
 . refine .inr ⟨_,hx,List.findIdx_getElem,fun j hj=>by simpa using List.not_of_lt_findIdx hj,?_⟩
   exact iM _ st _ (fun k hk=>hstep k (by omega) (by simpa using List.not_of_lt_findIdx hk)) (hbad _ hx List.findIdx_getElem) hs
 . have hall:∀x∈l,bad x=false:=by
    rw[List.findIdx_lt_length]at hx;intro x hm
    cases e:bad x with
    |false=>rfl
    |true=>exact absurd ⟨x,hm,e⟩ hx
   exact .inl ⟨hall,iM l.length st fin (fun k hk=>hstep k hk (hall _ (bw hk))) hend hs⟩
structure RS where
 bs:List UInt8
 at_:Nat
 code:Int
 pos:Int
namespace RS
def fail(s:RS)(code pos:Int):RS:=if s.code=0/\code≠0 then{s with code:=code,pos:=pos}else s
def take(s:RS)(n:Int):Option (List UInt8)×RS:=
 if s.code≠0 then(none,s)
 else if n<0 then(none,s.fail 2 s.at_)
 else if(s.bs.length:Int)-s.at_<n then(none,s.fail 8 s.bs.length)
 else(some ((s.bs.drop s.at_).take n.toNat),{s with at_:=s.at_+n.toNat})
def Ok(s:RS):Prop:=s.at_<=s.bs.length
def num(l:List UInt8):Nat:=l.foldl (fun x c=>256*x+c.toNat) 0
def size(n:Int):Int:=if n<1\/8<n then -1 else n
def uint(s:RS)(n:Int):Nat×RS:=
 match s.take (size n)with
 |(some l,s')=>(num l,s')
 |(none,s')=>(0,s')
def length(s:RS):Int×RS:=
 if 4611686018427387903<(s.uint 8).1 then(0,(s.uint 8).2.fail 2 s.at_)else(((s.uint 8).1:Int),(s.uint 8).2)
def bytes(s:RS)(n:Int):List UInt8×RS:=
 match s.take n with
 |(some l,s')=>(l,s')
 |(none,s')=>([],s')
def expect(s:RS)(b:List UInt8)(code:Int):Bool×RS:=
 if s.code≠0 then(false,s)
 else if((s.bs.drop s.at_).take b.length)≠b.take ((s.bs.drop s.at_).take b.length).length then(false,s.fail code s.at_)
 else((s.take b.length).1.isSome,(s.take b.length).2)
theorem gC(s:RS)(c p:Int):(s.fail c p).bs=s.bs/\(s.fail c p).at_=s.at_:=by unfold fail;split<;>exact⟨rfl,rfl⟩
theorem JL(s:RS)(h:s.Ok)(c p:Int):(s.fail c p).Ok:=by unfold Ok;rw[(gC s c p).1,(gC s c p).2];exact h
theorem NZ(s:RS)(h:s.code≠0)(c p:Int):s.fail c p=s:=by unfold fail;rw[if_neg (fun k=>h k.1)]
theorem GA(s:RS)(h:s.code≠0)(n:Int):s.take n=(none,s):=by unfold take;rw[if_pos h]
theorem GC(s:RS)(h:s.code=0)(n:Int)(hn:n<0):s.take n=(none,s.fail 2 s.at_):=by unfold take;rw[if_neg (fun k=>k h),if_pos hn]
theorem A4(s:RS)(h:s.code=0)(n:Int)(hn:0<=n)(hs:(s.bs.length:Int)-s.at_<n):s.take n=(none,s.fail 8 s.bs.length):=by
 unfold take;rw[if_neg (fun k=>k h),if_neg (by omega),if_pos hs]
theorem rV(s:RS)(h:s.code=0)(n:Nat)(hs:s.at_+n<=s.bs.length):s.take n=(some ((s.bs.drop s.at_).take n),{s with at_:=s.at_+n}):=by
 unfold take;rw[if_neg (fun k=>k h),if_neg (by omega),if_neg (by omega)];simp
theorem jA(s:RS)(h:s.Ok)(n:Int):(s.take n).2.Ok:=by
 unfold take;split
 . exact h
 . split
   . exact JL s h _ _
   . split
     . exact JL s h _ _
     . unfold Ok at *; simp only;omega
theorem yu(s:RS)(n:Int):(s.take n).2.bs=s.bs:=by
 unfold take;split
 . rfl
 . split
   . exact(gC s _ _).1
   . split
     . exact(gC s _ _).1
     . rfl
theorem D4(s:RS){n:Int}{l:List UInt8}(he:(s.take n).1=some l):l.length<=s.bs.length:=by
 unfold take at he;split at he
 . cases he
 . split at he
   . cases he
   . split at he
     . cases he
     . simp only[af]at he;subst he;simp;omega
theorem D3(s:RS){n:Int}{l:List UInt8}(he:(s.take (size n)).1=some l):l.length<=8:=by
 unfold take at he;split at he
 . cases he
 . split at he
   . cases he
   . split at he
     . cases he
     . simp only[af]at he;subst he;rename_i h1 _;unfold size at h1 ⊢;split at h1<;>simp<;>split<;>omega
theorem nW(s:RS){n:Int}{l:List UInt8}(h:(s.take (size n)).1=some l):s.uint n=(num l,(s.take (size n)).2):=by
 unfold uint;split<;>rename_i e<;>rw[e]at h ⊢ <;>cases h;rfl
theorem wJ(s:RS){n:Int}(h:(s.take (size n)).1=none):s.uint n=(0,(s.take (size n)).2):=by
 unfold uint;split<;>rename_i e<;>rw[e]at h ⊢ <;>cases h
theorem yX(s:RS){n:Int}{l:List UInt8}(h:(s.take n).1=some l):s.bytes n=(l,(s.take n).2):=by
 unfold bytes;split<;>rename_i e<;>rw[e]at h ⊢ <;>cases h;rfl
theorem G7(s:RS){n:Int}(h:(s.take n).1=none):s.bytes n=([],(s.take n).2):=by
 unfold bytes;split<;>rename_i e<;>rw[e]at h ⊢ <;>cases h
theorem nv(s:RS)(n:Int):(s.bytes n).2=(s.take n).2:=by
 unfold bytes;split<;>rename_i h<;>rw[h]
theorem yV(s:RS)(n:Int):(s.bytes n).2.bs=s.bs:=by rw[nv,yu]
theorem qV(s:RS)(n:Int):(s.uint n).2=(s.take (size n)).2:=by
 unfold uint;split<;>rename_i h<;>rw[h]
theorem jB(s:RS)(n:Int):(s.uint n).2.bs=s.bs:=by rw[qV,yu]
theorem jO(s:RS):s.length.2.bs=s.bs:=by
 unfold length;split
 . rw[(gC _ _ _).1,jB]
 . exact jB s 8
theorem rB(s:RS)(b:List UInt8)(c:Int):(s.expect b c).2.bs=s.bs:=by
 unfold expect;split
 . rfl
 . split
   . exact(gC _ _ _).1
   . exact yu _ _
theorem zX(l:List UInt8)(c:UInt8):num (l++[c])=256*num l+c.toNat:=by simp[num]
theorem DD(l:List UInt8):num l<256 ^ l.length:=by
 have h:∀(m:List UInt8),num m.reverse<256 ^ m.length:=by
  intro m
  induction m with
  |nil=>decide
  |cons c m ih=>
   rw[List.reverse_cons,zX,bp,Nat.pow_succ]
   have:=c.toNat_lt
   omega
 have:=h l.reverse;simpa using this
theorem FZ(l:List UInt8)(k:Nat)(hk:k<l.length)(hl:l.length<=8):num (l.take k)<72057594037927936:=by
 have h1:=DD (l.take k);have h2:(l.take k).length=k:=by simp;omega
 rw[h2]at h1;have h3:256 ^ k<=256 ^ 7:=Nat.pow_le_pow_right (by omega) (by omega);have h4:256 ^ 7=72057594037927936:=by decide
 omega
theorem BF(l:List UInt8)(k:Nat)(hk:k<l.length):num (l.take (k+1))=256*num (l.take k)+(l.getD k 0).toNat:=by
 rw[List.take_succ_eq_append_getElem hk,zX,yf _ _ _ hk]
theorem J8:∀(l l':List UInt8) (x y:Nat),l.length=l'.length->l.foldl (fun x c=>256*x+c.toNat) x=l'.foldl (fun x c=>256*x+c.toNat) y->x=y/\l=l'
 |[],[],_,_,_,h=>⟨h,rfl⟩
 |[],_::_,_,_,h,_=>by simp at h
 |_::_,[],_,_,h,_=>by simp at h
 |c::l,c'::l',x,y,hl,h=>by
  have⟨e,el⟩:=J8 l l' _ _ (by simpa using hl) h;have h1:=c.toNat_lt;have h2:=c'.toNat_lt;replace e:256*x+c.toNat=256*y+c'.toNat:=e;have h3:x=y/\c.toNat=c'.toNat:=by omega
  exact⟨h3.1,by rw[UInt8.toNat.inj h3.2,el]⟩
end RS
def be:Nat->Nat->List UInt8
 |0,_=>[]
 |k+1,v=>UInt8.ofNat (v/256 ^ k)::be k v
theorem iP:∀(k v:Nat),(be k v).length=k
 |0,_=>rfl
 |k+1,v=>by simp[be,iP k v]
theorem Jd:∀(k v x:Nat),(be k v).foldl (fun x c=>256*x+c.toNat) x=x*256 ^ k+v % 256 ^ k
 |0,v,x=>by simp[be,Nat.mod_one]
 |k+1,v,x=>by
  simp only[be,List.foldl_cons];have e:v % 256 ^ (k+1)=v % 256 ^ k+256 ^ k*(v/256 ^ k % 256):=Nat.mod_pow_succ;rw[Jd k v,UInt8.toNat_ofNat',e];have:(2:Nat) ^ 8=256:=rfl;rw[this,Nat.pow_succ];generalize v/256 ^ k % 256=d;generalize 256 ^ k=p;generalize v % p=e;rw[aM,Nat.mul_comm p d,Nat.mul_comm p 256,<- Nat.mul_assoc,Nat.mul_comm x 256];omega
theorem OU{k v:Nat}(h:v<256 ^ k):RS.num (be k v)=v:=by
 unfold RS.num;rw[Jd,Nat.zero_mul,aJ,Nat.mod_eq_of_lt h]
theorem Nh(l:List UInt8):be l.length (RS.num l)=l:=
 (RS.J8 _ _ 0 0 (iP _ _) (OU (RS.DD l))).2
theorem P5(n:Nat):u8 (n:Int)=UInt8.ofNat n:=by
 apply UInt8.toNat.inj;have:=l7 (n:Int);rw[UInt8.toNat_ofNat'];omega
theorem byteOf(v k:Nat)(hk:k<=8):u8 (o7 .u64 (v:Int) (8*(k:Int)))=UInt8.ofNat (v/256 ^ k):=by
 unfold o7;have e:min (8*(k:Int)).toNat IntKind.u64.bits=8*k:=by show min _ 64=_;omega
 rw[e,Int.fdiv_eq_ediv_of_nonneg _ (by exact_mod_cast Nat.zero_le _)];have e2:((2:Int) ^ (8*k))=((256 ^ k:Nat):Int):=by rw[Int.pow_mul,Int.natCast_pow];rfl
 rw[e2,<- Int.natCast_ediv,P5]
end
section
namespace G
theorem Fz{α:Type}{l:List α}{k:Nat}(d:α)(h:k<l.length):idx l (k:Int)=some (l.getD k d):=by rw[iU h];simp[h]
theorem BO{σ α γ:Type}{f:σ->Option (σ⊕α)}(l:List γ)(bad:γ->Bool)(st:Nat->σ)(ex:Nat->α)(fin:α)
 (hstep:∀k (h:k<l.length),bad l[k]=false->f (st k)=some (.inl (st (k+1))))
 (hbad:∀k (h:k<l.length),bad l[k]=true->f (st k)=some (.inr (ex k)))
 (hend:f (st l.length)=some (.inr fin)) {s:σ} (hs:s=st 0):
 ((∀x∈l,bad x=false)/\Iter f s=some fin)\/∃k,∃h:k<l.length,bad l[k]=true/\(∀j (hj:j<k),bad (l[j]'(by omega))=false)/\Iter f s=some (ex k):=by
 by_cases hx:l.findIdx bad<l.length
 . refine .inr ⟨_,hx,List.findIdx_getElem,fun j hj=>by simpa using List.not_of_lt_findIdx hj,?_⟩
   exact iM _ st _ (fun k hk=>hstep k (by omega) (by simpa using List.not_of_lt_findIdx hk)) (hbad _ hx List.findIdx_getElem) hs
 . have hall:∀x∈l,bad x=false:=by
    rw[List.findIdx_lt_length]at hx;intro x hm
    cases e:bad x with
    |false=>rfl
    |true=>exact absurd ⟨x,hm,e⟩ hx
   exact .inl ⟨hall,iM l.length st fin (fun k hk=>hstep k hk (hall _ (bw hk))) hend hs⟩
end G
end
section
structure G.bS where
 x:Int
 y:Int
 signed:Bool
 code:UInt8
 deriving DecidableEq,Inhabited
structure G.ij where
 x:Int
 y:Int
 signed:Bool
 code:UInt8
 deriving DecidableEq,Inhabited
structure G.dG where
 msg:List UInt8
 addr:Int
 deriving DecidableEq,Inhabited
structure G.eC where
 msg:List UInt8
 addr:Int
 deriving DecidableEq,Inhabited
structure G.kz where
 code:Int
 at_:Int
 deriving DecidableEq,Inhabited
structure G.bK where
 kind:Int
 to:Int
 eR:Int
 len:Int
 data:List UInt8
 deriving DecidableEq,Inhabited
def G.bK.Ok(x:G.bK):Prop:=Br x.kind/\Br x.to/\Br x.eR/\Br x.len/\XK x.data
structure G.cx where
 dj:Int
 dw:Int
 fO:Nat->UInt8
 fN:Nat->UInt8
 bD:List G.bK
 deriving Inhabited
def G.cx.Ok(x:G.cx):Prop:=Br x.dj/\Br x.dw/\(XK x.bD/\∀y∈x.bD,G.bK.Ok y)
structure G.sO where
 off:Int
 len:Int
 deriving DecidableEq,Inhabited
structure G.gW where
 state:Int
 Xh:Int
 writes:Int
 fault:G.kz
 deriving DecidableEq,Inhabited
structure G.kp where
 Nf:List G.gW
 done:Bool
 Yf:Int
 deriving DecidableEq,Inhabited
structure G.lz where
 writes:Int
 ma:Int
 deriving DecidableEq,Inhabited
structure G.cg where
 value:Int
 size:Int
 deriving DecidableEq,Inhabited
structure G.cJ where
 b:List UInt8
 at_:Int
 fault:G.kz
 deriving DecidableEq,Inhabited
structure G.dM where
 b:List UInt8
 at_:Int
 fault:G.kz
 deriving DecidableEq,Inhabited
structure G.bG where
 position:G.dM
 deriving DecidableEq,Inhabited
structure G.lB where
 NT:G.sO
 deriving DecidableEq,Inhabited
end
end Go.Proofs.YtjfkdglgecgjfaaGreat
