/- Part of the proof. -/
import Derived.Test.YtekpafdhgkocaaaGreatZa0
import Derived.Lib.Index
import GoSem.Core.View
namespace Go.Proofs.YtekpafdhgkocaaaGreat
section
open IntKind(i64)
namespace G
variable {α β σ:Type}
def I64(x:Int):Prop:= -9223372036854775808<=x/\x<=9223372036854775807
def Len{α:Type}(l:List α):Prop:=l.length<=9223372036854775807
def idx(l:List α)(i:Int):Option α:=if 0<=i then l[i.toNat]? else none
def qS(l:List α)(i:Int):Option (List α):=if 0<=i/\i<=l.length then some (l.drop i.toNat)else none
def wR(l:List α)(j:Int):Option (List α):=if 0<=j/\j<=l.length then some (l.take j.toNat)else none
def xr(l:List α)(i j:Int):Option (List α):=if 0<=i/\i<=j/\j<=l.length then some ((l.take j.toNat).drop i.toNat)else none
def app(b:Nat)(l l':List α):Option (List α):=if(l.length+l'.length)*b<=140737488355328 then some (l++l')else none
def m8(p:Prop)[Decidable p]:Option Unit:=if p then some ()else none
def u8(x:Int):UInt8:=UInt8.ofNat (x % 256).toNat
def lN(a b:Int):Int:=if b<a then b else a
def imax(a b:Int):Int:=if a<b then b else a
def cV(k:IntKind)(a b:Int):Int:=k.wrap ((BitVec.ofInt k.bits a &&& BitVec.ofInt k.bits b).toNat:Nat)
def KQ(k:IntKind)(a b:Int):Int:=k.wrap ((BitVec.ofInt k.bits a ||| BitVec.ofInt k.bits b).toNat:Nat)
def eY(k:IntKind)(a b:Int):Int:=k.wrap ((BitVec.ofInt k.bits a ^^^ BitVec.ofInt k.bits b).toNat:Nat)
def Uc(k:IntKind)(a b:Int):Int:=k.wrap ((BitVec.ofInt k.bits a &&& ~~~(BitVec.ofInt k.bits b)).toNat:Nat)
def qV(k:IntKind)(x y:Int):Int:=k.wrap (x*2 ^ (min y.toNat k.bits))
def eR(k:IntKind)(x y:Int):Int:=x.fdiv (2 ^ (min y.toNat k.bits))
def jx(f g:Nat->UInt8):Bool:=(List.range 32).all fun i=>f i == g i
def KN{α:Type}(n:Nat)(f:Nat->α):List α:=(List.range n).map f
def bV{α:Type}(f:Nat->α)(i:Int)(v:α):Nat->α:=fun k=>if(k:Int)=i then v else f k
def Al(i:Int)(v l:List Int):Option (List Int):=if 0<=i/\i<=(l.length:Int)/\0<v.length/\(l.length+v.length)*8<=140737488355328 then some (l.take i.toNat++(v++l.drop i.toNat))else none
def cw{α:Type}(f:Nat->α)(i:Int):α:=f i.toNat
def BS{α:Type}(f:Nat->α)(i j n:Nat):Nat->α:=fun p=>if i<=p/\p<i+n then f (p-i+j)else f p
def VS{α:Type}(l:List α)(o:Nat)(x:List α):List α:=l.take o++(x.take (l.length-o)++l.drop (o+x.length))
theorem Fl{α:Type}{l x:List α}{o:Nat}(h:o<=l.length):(VS l o x).length=l.length:=by
 unfold VS;simp only[ak,aN,aV];omega
def cpA(f:Nat->UInt8)(i m:Nat)(l:List UInt8):Nat->UInt8:=fun p=>if i<=p/\p<i+m then l.getD (p-i) 0 else f p
def EK{α:Type}(l:List α)(o n:Nat)(z:α):List α:=l.take o++(List.replicate n z++l.drop (o+n))
theorem Hn{α:Type}{l:List α}{o n:Nat}{z:α}(h:o+n<=l.length):(EK l o n z).length=l.length:=by
 unfold EK;simp only[ak,aN,aV,bj];omega
def yo(f:σ->Option (σ⊕α)):Nat->σ->α->Prop
 |0,_,_=>False
 |k+1,s,r=>∃x,f s=some x/\match x with| .inl s'=>yo f k s' r| .inr a=>a=r
theorem yo.det{f:σ->Option (σ⊕α)}:∀{k j:Nat} {s:σ} {r r':α},yo f k s r->yo f j s r'->r=r'
 |0,_,_,_,_,h,_=>h.elim
 |_+1,0,_,_,_,_,h=>h.elim
 |k+1,j+1,s,r,r',⟨x,hx,h⟩,⟨y,hy,h'⟩=>by
  rw[hx]at hy;cases hy
  cases x with
  |inl s'=>exact yo.det h h'
  |inr a=>exact h.symm.trans h'
open Classical in
noncomputable def Iter(f:σ->Option (σ⊕α))(s:σ):Option α:=if h:∃r k,yo f k s r then some h.choose else none
theorem sR{f:σ->Option (σ⊕α)}{s:σ}{r:α}:Iter f s=some r↔∃k,yo f k s r:=by
 unfold Iter;constructor
 . intro h;split at h
   . rename_i hx;cases h;exact hx.choose_spec
   . cases h
 . intro⟨k,hk⟩;have hx:∃r k,yo f k s r:=⟨r,k,hk⟩;rw[dif_pos hx];obtain⟨j,hj⟩:=hx.choose_spec;rw[yo.det hj hk]
def Qb(f:σ->Option (σ⊕α))(k:Nat)(r:α):σ⊕α->Prop
 |.inl s'=>∃k',k'<k/\yo f k' s' r
 |.inr a=>a=r
theorem ck{f:σ->Option (σ⊕α)}(I:Nat->σ->Prop)(Q:α->Prop)(round:∀k s,I k s->(∃k' s',f s=some (.inl s')/\k'<k/\I k' s')\/∃a,f s=some (.inr a)/\Q a):∀(k:Nat) (s:σ),I k s->∃r,Iter f s=some r/\Q r:=by
 intro k
 induction k using Nat.strongRecOn with
 |_ k ih=>
  intro s hI
  rcases round k s hI with⟨k',s',hf,hlt,hI'⟩|⟨a,hf,hq⟩
  . obtain⟨r,hr,hq⟩:=ih k' hlt s' hI'
    obtain⟨j,hj⟩:=sR.1 hr
    exact⟨r,sR.2 ⟨j+1,_,hf,hj⟩,hq⟩
  . exact⟨a,sR.2 ⟨1,_,hf,rfl⟩,hq⟩
theorem jB{f:σ->Option (σ⊕α)}{s s':σ}(h:f s=some (.inl s')):Iter f s=Iter f s':=by
 have key:∀r,Iter f s=some r↔Iter f s'=some r:=fun r=>by
  rw[sR,sR];constructor
  . rintro⟨k,hk⟩
    cases k with
    |zero=>exact hk.elim
    |succ k=>obtain⟨x,hx,hk⟩:=hk;rw[h]at hx;cases hx;exact⟨k,hk⟩
  . rintro⟨k,hk⟩;exact⟨k+1,_,h,hk⟩
 cases e:Iter f s' with
 |some r=>exact(key r).2 e
 |none=>
  cases e':Iter f s with
  |none=>rfl
  |some r=>rw[(key r).1 e']at e;cases e
theorem fS{f:σ->Option (σ⊕α)}{s:σ}{a:α}(h:f s=some (.inr a)):Iter f s=some a:=sR.2 ⟨1,_,h,rfl⟩
open Classical in
noncomputable def agree{γ:Type}(a b:Option γ):Option γ:=if a=b then a else none
theorem EO{γ:Type}(a:Option γ):agree a a=a:=if_pos rfl
def Fix.it{α β:Type}(F:(α->Option β)->α->Option β):Nat->α->Option β
 |0=>fun _=>none
 |k+1=>F (Fix.it F k)
open Classical in
noncomputable def Fix{α β:Type}(F:(α->Option β)->α->Option β)(a:α):Option β:=if h:∃r n,∀m,n<=m->Fix.it F m a=some r then some h.choose else none
theorem Xl{α β:Type}{F:(α->Option β)->α->Option β}{a:α}{r:β}(h:Fix F a=some r):∃k,Fix.it F k a=some r:=by
 unfold Fix at h;split at h
 . rename_i hx;cases h;obtain⟨n,hn⟩:=hx.choose_spec;exact⟨n,hn n (Nat.le_refl _)⟩
 . cases h
theorem M7{α β:Type}{F:(α->Option β)->α->Option β}(I:Nat->α->Prop)(Q:α->β->Prop)
 (step:∀k x,I k x->∀f g:α->Option β,(∀j y,j<k->I j y->∃r,f y=some r/\g y=some r/\Q y r)->∃r,F f x=some r/\F g x=some r/\Q x r) {k:Nat} {x:α} (hI:I k x):∃r,Fix F x=some r/\Q x r:=by
 have key:∀k n n' x,k<n->k<n'->I k x->∃r,Fix.it F n x=some r/\Fix.it F n' x=some r/\Q x r:=by
  intro k
  induction k using Nat.strongRecOn with
  |_ k ih=>
   intro n n' x hn hn' hI
   match n,n',hn,hn' with
   |n+1,n'+1,hn,hn'=>exact step k x hI _ _ fun j y hj hy=>ih j hj n n' y (by omega) (by omega) hy
 obtain⟨r,h1,_,hq⟩:=key k (k+1) (k+1) x (by omega) (by omega) hI
 have hx:∃r n,∀m,n<=m->Fix.it F m x=some r:=⟨r,k+1,fun m hm=>by
  obtain⟨r',h2,h3,_⟩:=key k (k+1) m x (by omega) (by omega) hI;rw[h1]at h2;cases h2;exact h3⟩
 refine⟨hx.choose,by unfold Fix;rw[dif_pos hx],?_⟩
 obtain⟨n,hn⟩:=hx.choose_spec
 obtain⟨r',h2,h3,hq'⟩:=key k (k+1+n) (k+1+n) x (by omega) (by omega) hI
 rw[hn _ (by omega)]at h2;cases h2;exact hq'
theorem fm{x:Int}(h1: -9223372036854775808<=x)(h2:x<=9223372036854775807):i64.wrap x=x:=by
 simp only[IntKind.wrap,IntKind.bits,IntKind.signed];simp;split<;>omega
theorem Vt{f:σ->Option (σ⊕α)}(n:Nat)(st:Nat->σ)(r:α)(hstep:∀k,k<n->f (st k)=some (.inl (st (k+1))))(hend:f (st n)=some (.inr r)):∀j,j<=n->Iter f (st (n-j))=some r:=by
 intro j
 induction j with
 |zero=>intro _;exact fS hend
 |succ j ih=>
  intro hj
  rw[jB (hstep (n-(j+1)) (by omega)),show n-(j+1)+1=n-j by omega]
  exact ih (by omega)
theorem cb{f:σ->Option (σ⊕α)}(n:Nat)(st:Nat->σ)(r:α)(hstep:∀k,k<n->f (st k)=some (.inl (st (k+1))))(hend:f (st n)=some (.inr r)){s:σ}(hs:s=st 0):Iter f s=some r:=by
 subst hs;have:=Vt n st r hstep hend n (Nat.le_refl _);rwa[Nat.sub_self]at this
theorem cN{l:List α}{k:Nat}(h:k<l.length):idx l (k:Int)=some l[k]:=by
 unfold idx;rw[if_pos (by omega)];simp[h]
theorem Uw{l:List α}{i:Int}{k:Nat}(hi:i=(k:Int))(h:k<l.length):idx l i=some l[k]:=by subst hi;exact cN h
theorem dj{b:Nat}{l l':List α}(h:(l.length+l'.length)*b<=140737488355328):app b l l'=some (l++l'):=by unfold app;rw[if_pos h]
theorem Fv{l:List α}{i:Int}(h:0<=i/\i<=l.length):qS l i=some (l.drop i.toNat):=by unfold qS;rw[if_pos h]
theorem AG{l:List α}{i:Int}(h:0<=i/\i<=l.length):wR l i=some (l.take i.toNat):=by unfold wR;rw[if_pos h]
theorem IG{l:List α}{i j:Int}(h:0<=i/\i<=j/\j<=l.length):xr l i j=some ((l.take j.toNat).drop i.toNat):=by unfold xr;rw[if_pos h]
theorem dX{p:Prop}[Decidable p](h:p):m8 p=some ():=by unfold m8;rw[if_pos h]
theorem dk{k n:Nat}(h:k<n)(hn:n<=9223372036854775807):i64.wrap ((k:Int)+1)=((k+1:Nat):Int):=by rw[fm (by omega) (by omega)];omega
def uq(z:α⊕β)(F:α->Option β):Option β:=match z with| .inl v=>F v| .inr a=>some a
@[simp] theorem pc(v:α)(F:α->Option β):uq (.inl v) F=F v:=rfl
@[simp] theorem NA(a:β)(F:α->Option β):uq (.inr a) F=some a:=rfl
theorem nL{p:Prop}[Decidable p]{u:Unit}(h:m8 p=some u):p:=by
 unfold m8 at h;split at h
 . assumption
 . cases h
theorem CC{l:List α}{i:Int}{x:α}(h:idx l i=some x):∃j:Nat,i=(j:Int)/\l[j]?=some x:=by
 unfold idx at h;split at h
 . exact⟨i.toNat,by omega,h⟩
 . cases h
theorem G4{l l':List α}{i:Int}(h:qS l i=some l'):∃j:Nat,i=(j:Int)/\j<=l.length/\l'=l.drop j:=by
 unfold qS at h;split at h
 . cases h;exact⟨i.toNat,by omega,by omega,rfl⟩
 . cases h
theorem Fw{l l':List α}{i:Int}(h:wR l i=some l'):∃j:Nat,i=(j:Int)/\j<=l.length/\l'=l.take j:=by
 unfold wR at h;split at h
 . cases h;exact⟨i.toNat,by omega,by omega,rfl⟩
 . cases h
theorem RO{l l':List α}{i j:Int}(h:xr l i j=some l'):∃p q:Nat,i=(p:Int)/\j=(q:Int)/\p<=q/\q<=l.length/\l'=(l.take q).drop p:=by
 unfold xr at h;split at h
 . cases h;exact⟨i.toNat,j.toNat,by omega,by omega,by omega,by omega,rfl⟩
 . cases h
theorem z6{b:Nat}{l l' r:List α}(h:app b l l'=some r):(l.length+l'.length)*b<=140737488355328/\r=l++l':=by
 unfold app at h;split at h
 . cases h;exact⟨by assumption,rfl⟩
 . cases h
theorem MC{x:Int}(h1:0<=x)(h2:x<=18446744073709551615):IntKind.u64.wrap x=x:=by
 simp[IntKind.wrap,IntKind.bits,IntKind.signed];omega
theorem wu8(x:Int):IntKind.u8.wrap x=x % 256:=by
 simp[IntKind.wrap,IntKind.bits,IntKind.signed]
theorem AU(x:Int):((u8 x).toNat:Int)=x % 256:=by
 unfold u8;have h1:(x % 256).toNat<256:=by omega
 rw[UInt8.toNat_ofNat'];omega
theorem abV(x:Int):IntKind.u8.wrap x=((u8 x).toNat:Int):=by rw[wu8,AU]
def dn(x y:Int):Bool:=decide (x=y)
def ZD(x y:List UInt8):Bool:=decide (x=y)
section
variable {κ ν:Type}
def dT(eq:κ->κ->Bool)(l:List (κ×ν))(k:κ):Option ν:=(l.find? fun p=>eq k p.1).map (·.2)
def lP(eq:κ->κ->Bool)(l:List (κ×ν))(k:κ)(v:ν):List (κ×ν):=if(l.any fun p=>eq k p.1)=true then l.map (fun p=>if eq k p.1=true then(k,v)else p)else l++[(k,v)]
def Wm(eq:κ->κ->Bool)(l:List (κ×ν))(k:κ):List (κ×ν):=l.filter fun p=>!eq k p.1
def Tf(eq:κ->κ->Bool)(l:List (κ×ν))(k:κ)(z:ν):List (κ×ν):=if(l.any fun p=>eq k p.1)=true then l else l++[(k,z)]
end
noncomputable def z5{ι γ:Type}(P:ι->Prop)(k:ι->Option γ):Option γ:=
 @dite _ ((∃i,P i)/\∃r,∀i,P i->k i=some r) (Classical.propDecidable _) (fun h=>some (Classical.choose h.2)) fun _=>none
theorem KE{ι γ:Type}{P:ι->Prop}{k:ι->Option γ}{r:γ}(h:z5 P k=some r):(∃i,P i)/\∀i,P i->k i=some r:=by
 unfold z5 at h;split at h
 . rename_i hp;have:=ar h;exact⟨hp.1,by rw[<- this];exact Classical.choose_spec hp.2⟩
 . cases h
theorem Cd{ι γ:Type}{P:ι->Prop}{k:ι->Option γ}{r:γ}(h0:∃i,P i)(h:∀i,P i->k i=some r):z5 P k=some r:=by
 have hp:(∃i,P i)/\∃r,∀i,P i->k i=some r:=⟨h0,r,h⟩;unfold z5;rw[dif_pos hp];obtain⟨i,hi⟩:=h0;have:=Classical.choose_spec hp.2 i hi;rw[h i hi]at this;exact this.symm
theorem VB{ι γ γ':Type}{P:ι->Prop}{φ:γ->γ'}(hφ:∀x y,φ x=φ y->x=y){k:ι->Option γ}{k':ι->Option γ'}(hk:∀i,k' i=(k i).map φ):z5 P k'=(z5 P k).map φ:=by
 by_cases h:(∃i,P i)/\∃r,∀i,P i->k i=some r
 . obtain⟨h0,r,h1⟩:=h;rw[Cd h0 h1,Cd (r:=φ r) h0 fun i hi=>by rw[hk,h1 i hi];rfl];rfl
 . have e:z5 P k=none:=by unfold z5;rw[dif_neg h]
   rw[e]
   cases h':z5 P k' with
   |none=>rfl
   |some r'=>
    obtain⟨h0,h1⟩:=KE h'
    refine absurd ⟨h0,?_⟩ h
    obtain⟨i,hi⟩:=h0
    have h2:=h1 i hi
    rw[hk]at h2
    obtain⟨r,hr,rfl⟩:=af.1 h2
    refine⟨r,fun j hj=>?_⟩
    have h3:=h1 j hj
    rw[hk]at h3
    obtain⟨r2,hr2,e2⟩:=af.1 h3
    rw[hr2,hφ _ _ e2]
def pR{κ σ α:Type}(f:κ->σ->Option (σ⊕α))(e:σ->Option α):List κ->σ->Option α
 |[],s=>e s
 |x::l,s=>(f x s).bind fun y=>match y with
  |.inl s'=>pR f e l s'
  |.inr r=>some r
theorem NT{κ σ α β:Type}{φ:α->β}{f:κ->σ->Option (σ⊕α)}{f':κ->σ->Option (σ⊕β)}{e:σ->Option α}{e':σ->Option β}(hf:∀x s,f' x s=(f x s).map (Sum.map id φ))(he:∀s,e' s=(e s).map φ):∀(l:List κ) (s:σ),pR f' e' l s=(pR f e l s).map φ
 |[],s=>he s
 |x::l,s=>by
  simp only[pR,hf]
  cases f x s with
  |none=>rfl
  |some y=>
   cases y with
   |inl s'=>exact NT hf he l s'
   |inr r=>rfl
end G
end
section
open IntKind(i64)
namespace G
theorem dD{α:Type}{l:List α}{k:Nat}(d:α)(h:k<l.length):idx l (k:Int)=some (l.getD k d):=by rw[cN h];simp[h]
theorem uo{α:Type}{l:List α}{i:Int}{k:Nat}(d:α)(hi:i=(k:Int))(h:k<l.length):idx l i=some (l.getD k d):=by subst hi;exact dD d h
theorem wP{α:Type}{l:List α}{i:Int}{k:Nat}(hi:i=(k:Int))(h:k<l.length):∃x,idx l i=some x:=⟨_,Uw hi h⟩
theorem OG{α:Type}(x:Option α):(x.bind fun y=>some y)=x:=by cases x<;>rfl
theorem jd{σ α γ:Type}{f:σ->Option (σ⊕α)}(l:List γ)(bad:γ->Bool)(st:Nat->σ)(ex:Nat->α)(fin:α)
 (hstep:∀k (h:k<l.length),bad l[k]=false->f (st k)=some (.inl (st (k+1))))
 (hbad:∀k (h:k<l.length),bad l[k]=true->f (st k)=some (.inr (ex k)))
 (hend:f (st l.length)=some (.inr fin)) {s:σ} (hs:s=st 0):
 ((∀x∈l,bad x=false)/\Iter f s=some fin)\/∃k,∃h:k<l.length,bad l[k]=true/\(∀j (hj:j<k),bad (l[j]'(by omega))=false)/\Iter f s=some (ex k):=by
 by_cases hx:l.findIdx bad<l.length
 . refine .inr ⟨_,hx,List.findIdx_getElem,fun j hj=>by simpa using List.not_of_lt_findIdx hj,?_⟩
   exact cb _ st _ (fun k hk=>hstep k (by omega) (by simpa using List.not_of_lt_findIdx hk)) (hbad _ hx List.findIdx_getElem) hs
 . have hall:∀x∈l,bad x=false:=by
    rw[List.findIdx_lt_length]at hx;intro x hm
    cases e:bad x with
    |false=>rfl
    |true=>exact absurd ⟨x,hm,e⟩ hx
   exact .inl ⟨hall,cb l.length st fin (fun k hk=>hstep k hk (hall _ (aA hk))) hend hs⟩
theorem MA{k:Nat}(h:k<=9223372036854775807):i64.wrap (k:Int)=(k:Int):=fm (by omega) (by omega)
theorem Tg{x:Int}{k:Nat}(hx:x=(k:Int))(h:k<=9223372036854775807):i64.wrap (eR .u64 (IntKind.u64.wrap (i64.wrap x)) 1)=((k/2:Nat):Int):=by
 subst hx;rw[MA h,show IntKind.u64.wrap (k:Int)=(k:Int)by simp only[IntKind.wrap,IntKind.bits,IntKind.signed];simp;omega];have:eR .u64 (k:Int) 1=((k/2:Nat):Int):=by
  unfold eR;rw[show(2:Int) ^ (min (1:Int).toNat IntKind.u64.bits)=2 from rfl,Int.fdiv_eq_ediv_of_nonneg _ (by omega)];omega
 rw[this,MA (by omega)]
end G
end
section
structure G.dF where
 x:Int
 y:Int
 signed:Bool
 code:UInt8
 deriving DecidableEq,Inhabited
structure G.sM where
 x:Int
 y:Int
 signed:Bool
 code:UInt8
 deriving DecidableEq,Inhabited
structure G.kh where
 msg:List UInt8
 addr:Int
 deriving DecidableEq,Inhabited
structure G.ns where
 msg:List UInt8
 addr:Int
 deriving DecidableEq,Inhabited
structure G.bN where
 kind:Int
 to:Int
 cq:Int
 len:Int
 data:List UInt8
 deriving DecidableEq,Inhabited
def G.bN.Ok(x:G.bN):Prop:=I64 x.kind/\I64 x.to/\I64 x.cq/\I64 x.len/\Len x.data
structure G.cu where
 cg:Int
 b6:Int
 dv:Nat->UInt8
 du:Nat->UInt8
 bO:List G.bN
 deriving Inhabited
structure G.bZ where
 cg:Int
 b6:Int
 dv:Nat->UInt8
 du:Nat->UInt8
 bO:List G.bN
 deriving Inhabited
def G.bZ.Ok(x:G.bZ):Prop:=I64 x.cg/\I64 x.b6/\(Len x.bO/\∀y∈x.bO,G.bN.Ok y)
structure G.lS where
 code:Int
 at_:Int
 deriving DecidableEq,Inhabited
structure G.sQ where
 code:Int
 at_:Int
 deriving DecidableEq,Inhabited
structure G.og where
 s:List Int
 k:List Int
 deriving DecidableEq,Inhabited
structure G.gg where
 s:List Int
 k:List Int
 deriving DecidableEq,Inhabited
structure G.bP where
 cq:Int
 to:Int
 deriving DecidableEq,Inhabited
structure G.bT where
 cq:Int
 to:Int
 deriving DecidableEq,Inhabited
structure G.cd where
 off:Int
 len:Int
 deriving DecidableEq,Inhabited
structure G.vW where
 n:Int
 aeD:List G.bT
 deriving DecidableEq,Inhabited
structure G.gu where
 b:List UInt8
 at_:Int
 fault:G.sQ
 deriving DecidableEq,Inhabited
structure G.qZ where
 dH:G.cd
 deriving DecidableEq,Inhabited
structure G.AE where
 words:Nat->Int
 rest:List UInt8
 n:Int
 deriving Inhabited
structure G.Mn where
 state:G.AE
 deriving Inhabited
structure G.bQ where
 dH:G.cd
 position:Int
 deriving DecidableEq,Inhabited
structure G.CD where
 sorted:List G.bQ
 deriving DecidableEq,Inhabited
end
end Go.Proofs.YtekpafdhgkocaaaGreat
