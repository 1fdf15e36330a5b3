/- Part of the proof. -/
import Derived.Test.YtekpafdhgkocaaaGreatZa0
import Derived.Lib.Index
import GoSem.Core.View
namespace Go.Proofs.YtekpafdhgkocaaaGreat
section
open IntKind(i64)
namespace G
variable {α β σ:Type}
def Zj(x:Int):Prop:= -9223372036854775808<=x/\x<=9223372036854775807
def Len{α:Type}(l:List α):Prop:=l.length<=9223372036854775807
def idx(l:List α)(i:Int):Option α:=if 0<=i then l[i.toNat]? else none
def rM(l:List α)(i:Int):Option (List α):=if 0<=i/\i<=l.length then some (l.drop i.toNat)else none
def uS(l:List α)(j:Int):Option (List α):=if 0<=j/\j<=l.length then some (l.take j.toNat)else none
def wg(l:List α)(i j:Int):Option (List α):=if 0<=i/\i<=j/\j<=l.length then some ((l.take j.toNat).drop i.toNat)else none
def app(b:Nat)(l l':List α):Option (List α):=if(l.length+l'.length)*b<=140737488355328 then some (l++l')else none
def zC(p:Prop)[Decidable p]:Option Unit:=if p then some ()else none
def u8(x:Int):UInt8:=UInt8.ofNat (x % 256).toNat
def mA(a b:Int):Int:=if b<a then b else a
def imax(a b:Int):Int:=if a<b then b else a
def zx(k:IntKind)(a b:Int):Int:=k.wrap ((BitVec.ofInt k.bits a &&& BitVec.ofInt k.bits b).toNat:Nat)
def bor(k:IntKind)(a b:Int):Int:=k.wrap ((BitVec.ofInt k.bits a ||| BitVec.ofInt k.bits b).toNat:Nat)
def xD(k:IntKind)(a b:Int):Int:=k.wrap ((BitVec.ofInt k.bits a ^^^ BitVec.ofInt k.bits b).toNat:Nat)
def OH(k:IntKind)(a b:Int):Int:=k.wrap ((BitVec.ofInt k.bits a &&& ~~~(BitVec.ofInt k.bits b)).toNat:Nat)
def BD(k:IntKind)(x y:Int):Int:=k.wrap (x*2 ^ (min y.toNat k.bits))
def lx(k:IntKind)(x y:Int):Int:=x.fdiv (2 ^ (min y.toNat k.bits))
def Aa(f g:Nat->UInt8):Bool:=(List.range 32).all fun i=>f i == g i
def Gz{α:Type}(n:Nat)(f:Nat->α):List α:=(List.range n).map f
def AA{α:Type}(f:Nat->α)(i:Int)(v:α):Nat->α:=fun k=>if(k:Int)=i then v else f k
def xN(i:Int)(v l:List Int):Option (List Int):=if 0<=i/\i<=(l.length:Int)/\0<v.length/\(l.length+v.length)*8<=140737488355328 then some (l.take i.toNat++(v++l.drop i.toNat))else none
def yF{α:Type}(f:Nat->α)(i:Int):α:=f i.toNat
def Mh{α:Type}(f:Nat->α)(i j n:Nat):Nat->α:=fun p=>if i<=p/\p<i+n then f (p-i+j)else f p
def LC{α:Type}(l:List α)(o:Nat)(x:List α):List α:=l.take o++(x.take (l.length-o)++l.drop (o+x.length))
theorem Ci{α:Type}{l x:List α}{o:Nat}(h:o<=l.length):(LC l o x).length=l.length:=by
 unfold LC;simp only[aq,aM,bj];omega
def ZB(f:Nat->UInt8)(i m:Nat)(l:List UInt8):Nat->UInt8:=fun p=>if i<=p/\p<i+m then l.getD (p-i) 0 else f p
def B2{α:Type}(l:List α)(o n:Nat)(z:α):List α:=l.take o++(List.replicate n z++l.drop (o+n))
theorem DT{α:Type}{l:List α}{o n:Nat}{z:α}(h:o+n<=l.length):(B2 l o n z).length=l.length:=by
 unfold B2;simp only[aq,aM,bj,bf];omega
def vE(f:σ->Option (σ⊕α)):Nat->σ->α->Prop
 | 0,_,_=>False
 | k+1,s,r=>∃ x,f s=some x/\match x with| .inl s'=>vE f k s' r| .inr a=>a=r
theorem vE.det{f:σ->Option (σ⊕α)}:∀ {k j:Nat} {s:σ} {r r':α},vE f k s r->vE f j s r'->r=r'
 | 0,_,_,_,_,h,_=>h.elim
 | _+1,0,_,_,_,_,h=>h.elim
 | k+1,j+1,s,r,r',⟨x,hx,h⟩,⟨y,hy,h'⟩=>by
   rw[hx]at hy;cases hy
   cases x with
   | inl s'=>exact vE.det h h'
   | inr a=>exact h.symm.trans h'
open Classical in
noncomputable def Iter(f:σ->Option (σ⊕α))(s:σ):Option α:=if h:∃ r k,vE f k s r then some h.choose else none
theorem rf{f:σ->Option (σ⊕α)}{s:σ}{r:α}:Iter f s=some r↔∃ k,vE f k s r:=by
 unfold Iter
 constructor
 . intro h
   split at h
   . rename_i hx
     cases h;exact hx.choose_spec
   . cases h
 . intro⟨k,hk⟩
   have hx:∃ r k,vE f k s r:=⟨r,k,hk⟩
   rw[dif_pos hx]
   obtain⟨j,hj⟩:=hx.choose_spec
   rw[vE.det hj hk]
def Lg(f:σ->Option (σ⊕α))(k:Nat)(r:α):σ⊕α->Prop
 | .inl s'=>∃ k',k'<k/\vE f k' s' r
 | .inr a=>a=r
theorem cu{f:σ->Option (σ⊕α)}(I:Nat->σ->Prop)(Q:α->Prop)(round:∀ k s,I k s->(∃ k' s',f s=some (.inl s')/\k'<k/\I k' s')\/∃ a,f s=some (.inr a)/\Q a):∀ (k:Nat) (s:σ),I k s->∃ r,Iter f s=some r/\Q r:=by
 intro k
 induction k using Nat.strongRecOn with
 | _ k ih=>
   intro s hI
   rcases round k s hI with⟨k',s',hf,hlt,hI'⟩|⟨a,hf,hq⟩
   . obtain⟨r,hr,hq⟩:=ih k' hlt s' hI'
     obtain⟨j,hj⟩:=rf.1 hr
     exact⟨r,rf.2 ⟨j+1,_,hf,hj⟩,hq⟩
   . exact⟨a,rf.2 ⟨1,_,hf,rfl⟩,hq⟩
theorem rh{f:σ->Option (σ⊕α)}{s s':σ}(h:f s=some (.inl s')):Iter f s=Iter f s':=by
 have key:∀ r,Iter f s=some r↔Iter f s'=some r:=fun r=>by
  rw[rf,rf]
  constructor
  . rintro⟨k,hk⟩
    cases k with
    | zero=>exact hk.elim
    | succ k=>obtain⟨x,hx,hk⟩:=hk;rw[h]at hx;cases hx;exact⟨k,hk⟩
  . rintro⟨k,hk⟩;exact⟨k+1,_,h,hk⟩
 cases e:Iter f s' with
 | some r=>exact(key r).2 e
 | none=>
   cases e':Iter f s with
   | none=>rfl
   | some r=>rw[(key r).1 e']at e;cases e
theorem j8{f:σ->Option (σ⊕α)}{s:σ}{a:α}(h:f s=some (.inr a)):Iter f s=some a:=rf.2 ⟨1,_,h,rfl⟩
open Classical in
noncomputable def agree{γ:Type}(a b:Option γ):Option γ:=if a=b then a else none
theorem B4{γ:Type}(a:Option γ):agree a a=a:=if_pos rfl
def Fix.it{α β:Type}(F:(α->Option β)->α->Option β):Nat->α->Option β
 | 0=>fun _=>none
 | k+1=>F (Fix.it F k)
open Classical in
noncomputable def Fix{α β:Type}(F:(α->Option β)->α->Option β)(a:α):Option β:=if h:∃ r n,∀ m,n<=m->Fix.it F m a=some r then some h.choose else none
theorem RU{α β:Type}{F:(α->Option β)->α->Option β}{a:α}{r:β}(h:Fix F a=some r):∃ k,Fix.it F k a=some r:=by
 unfold Fix at h
 split at h
 . rename_i hx
   cases h
   obtain⟨n,hn⟩:=hx.choose_spec
   exact⟨n,hn n (Nat.le_refl _)⟩
 . cases h
theorem DW{α β:Type}{F:(α->Option β)->α->Option β}(I:Nat->α->Prop)(Q:α->β->Prop)
 (step:∀ k x,I k x->∀ f g:α->Option β,(∀ j y,j<k->I j y->∃ r,f y=some r/\g y=some r/\Q y r)->∃ r,F f x=some r/\F g x=some r/\Q x r) {k:Nat} {x:α} (hI:I k x):∃ r,Fix F x=some r/\Q x r:=by
 have key:∀ k n n' x,k<n->k<n'->I k x->∃ r,Fix.it F n x=some r/\Fix.it F n' x=some r/\Q x r:=by
  intro k
  induction k using Nat.strongRecOn with
  | _ k ih=>
    intro n n' x hn hn' hI
    match n,n',hn,hn' with
    | n+1,n'+1,hn,hn'=>exact step k x hI _ _ fun j y hj hy=>ih j hj n n' y (by omega) (by omega) hy
 obtain⟨r,h1,_,hq⟩:=key k (k+1) (k+1) x (by omega) (by omega) hI
 have hx:∃ r n,∀ m,n<=m->Fix.it F m x=some r:=⟨r,k+1,fun m hm=>by
  obtain⟨r',h2,h3,_⟩:=key k (k+1) m x (by omega) (by omega) hI
  rw[h1]at h2;cases h2;exact h3⟩
 refine⟨hx.choose,by unfold Fix;rw[dif_pos hx],?_⟩
 obtain⟨n,hn⟩:=hx.choose_spec
 obtain⟨r',h2,h3,hq'⟩:=key k (k+1+n) (k+1+n) x (by omega) (by omega) hI
 rw[hn _ (by omega)]at h2;cases h2;exact hq'
theorem fB{x:Int}(h1: -9223372036854775808<=x)(h2:x<=9223372036854775807):i64.wrap x=x:=by
 simp only[IntKind.wrap,IntKind.bits,IntKind.signed];simp;split<;>omega
theorem P5{f:σ->Option (σ⊕α)}(n:Nat)(st:Nat->σ)(r:α)(hstep:∀ k,k<n->f (st k)=some (.inl (st (k+1))))(hend:f (st n)=some (.inr r)):∀ j,j<=n->Iter f (st (n-j))=some r:=by
 intro j
 induction j with
 | zero=>intro _;exact j8 hend
 | succ j ih=>
   intro hj
   rw[rh (hstep (n-(j+1)) (by omega)),show n-(j+1)+1=n-j by omega]
   exact ih (by omega)
theorem cD{f:σ->Option (σ⊕α)}(n:Nat)(st:Nat->σ)(r:α)(hstep:∀ k,k<n->f (st k)=some (.inl (st (k+1))))(hend:f (st n)=some (.inr r)){s:σ}(hs:s=st 0):Iter f s=some r:=by
 subst hs
 have:=P5 n st r hstep hend n (Nat.le_refl _)
 rwa[Nat.sub_self]at this
theorem cH{l:List α}{k:Nat}(h:k<l.length):idx l (k:Int)=some l[k]:=by
 unfold idx;rw[if_pos (by omega)];simp[h]
theorem FR{l:List α}{i:Int}{k:Nat}(hi:i=(k:Int))(h:k<l.length):idx l i=some l[k]:=by subst hi;exact cH h
theorem dT{b:Nat}{l l':List α}(h:(l.length+l'.length)*b<=140737488355328):app b l l'=some (l++l'):=by unfold app;rw[if_pos h]
theorem HI{l:List α}{i:Int}(h:0<=i/\i<=l.length):rM l i=some (l.drop i.toNat):=by unfold rM;rw[if_pos h]
theorem yb{l:List α}{i:Int}(h:0<=i/\i<=l.length):uS l i=some (l.take i.toNat):=by unfold uS;rw[if_pos h]
theorem Jz{l:List α}{i j:Int}(h:0<=i/\i<=j/\j<=l.length):wg l i j=some ((l.take j.toNat).drop i.toNat):=by unfold wg;rw[if_pos h]
theorem zT{p:Prop}[Decidable p](h:p):zC p=some ():=by unfold zC;rw[if_pos h]
theorem dk{k n:Nat}(h:k<n)(hn:n<=9223372036854775807):i64.wrap ((k:Int)+1)=((k+1:Nat):Int):=by rw[fB (by omega) (by omega)];omega
def qO(z:α⊕β)(F:α->Option β):Option β:=match z with| .inl v=>F v| .inr a=>some a
@[simp] theorem nB(v:α)(F:α->Option β):qO (.inl v) F=F v:=rfl
@[simp] theorem I0(a:β)(F:α->Option β):qO (.inr a) F=some a:=rfl
theorem mD{p:Prop}[Decidable p]{u:Unit}(h:zC p=some u):p:=by
 unfold zC at h;split at h
 . assumption
 . cases h
theorem Ae{l:List α}{i:Int}{x:α}(h:idx l i=some x):∃ j:Nat,i=(j:Int)/\l[j]?=some x:=by
 unfold idx at h;split at h
 . exact⟨i.toNat,by omega,h⟩
 . cases h
theorem Dz{l l':List α}{i:Int}(h:rM l i=some l'):∃ j:Nat,i=(j:Int)/\j<=l.length/\l'=l.drop j:=by
 unfold rM at h;split at h
 . cases h;exact⟨i.toNat,by omega,by omega,rfl⟩
 . cases h
theorem Cr{l l':List α}{i:Int}(h:uS l i=some l'):∃ j:Nat,i=(j:Int)/\j<=l.length/\l'=l.take j:=by
 unfold uS at h;split at h
 . cases h;exact⟨i.toNat,by omega,by omega,rfl⟩
 . cases h
theorem MN{l l':List α}{i j:Int}(h:wg l i j=some l'):∃ p q:Nat,i=(p:Int)/\j=(q:Int)/\p<=q/\q<=l.length/\l'=(l.take q).drop p:=by
 unfold wg at h;split at h
 . cases h;exact⟨i.toNat,j.toNat,by omega,by omega,by omega,by omega,rfl⟩
 . cases h
theorem xA{b:Nat}{l l' r:List α}(h:app b l l'=some r):(l.length+l'.length)*b<=140737488355328/\r=l++l':=by
 unfold app at h;split at h
 . cases h;exact⟨by assumption,rfl⟩
 . cases h
theorem wu8(x:Int):IntKind.u8.wrap x=x % 256:=by
 simp[IntKind.wrap,IntKind.bits,IntKind.signed]
theorem ym(x:Int):((u8 x).toNat:Int)=x % 256:=by
 unfold u8
 have h1:(x % 256).toNat<256:=by omega
 rw[UInt8.toNat_ofNat']
 omega
theorem WD(x:Int):IntKind.u8.wrap x=((u8 x).toNat:Int):=by rw[wu8,ym]
def cR(x y:Int):Bool:=decide (x=y)
def Uu(x y:List UInt8):Bool:=decide (x=y)
section
variable {κ ν:Type}
def dG(eq:κ->κ->Bool)(l:List (κ×ν))(k:κ):Option ν:=(l.find? fun p=>eq k p.1).map (·.2)
def kZ(eq:κ->κ->Bool)(l:List (κ×ν))(k:κ)(v:ν):List (κ×ν):=if(l.any fun p=>eq k p.1)=true then l.map (fun p=>if eq k p.1=true then(k,v)else p)else l++[(k,v)]
def QM(eq:κ->κ->Bool)(l:List (κ×ν))(k:κ):List (κ×ν):=l.filter fun p=>!eq k p.1
def NR(eq:κ->κ->Bool)(l:List (κ×ν))(k:κ)(z:ν):List (κ×ν):=if(l.any fun p=>eq k p.1)=true then l else l++[(k,z)]
end
noncomputable def xz{ι γ:Type}(P:ι->Prop)(k:ι->Option γ):Option γ:=
 @dite _ ((∃ i,P i)/\∃ r,∀ i,P i->k i=some r) (Classical.propDecidable _) (fun h=>some (Classical.choose h.2)) fun _=>none
theorem Gq{ι γ:Type}{P:ι->Prop}{k:ι->Option γ}{r:γ}(h:xz P k=some r):(∃ i,P i)/\∀ i,P i->k i=some r:=by
 unfold xz at h
 split at h
 . rename_i hp
   have:=ar h
   exact⟨hp.1,by rw[<- this];exact Classical.choose_spec hp.2⟩
 . cases h
theorem zI{ι γ:Type}{P:ι->Prop}{k:ι->Option γ}{r:γ}(h0:∃ i,P i)(h:∀ i,P i->k i=some r):xz P k=some r:=by
 have hp:(∃ i,P i)/\∃ r,∀ i,P i->k i=some r:=⟨h0,r,h⟩
 unfold xz
 rw[dif_pos hp]
 obtain⟨i,hi⟩:=h0
 have:=Classical.choose_spec hp.2 i hi
 rw[h i hi]at this
 exact this.symm
theorem P8{ι γ γ':Type}{P:ι->Prop}{φ:γ->γ'}(hφ:∀ x y,φ x=φ y->x=y){k:ι->Option γ}{k':ι->Option γ'}(hk:∀ i,k' i=(k i).map φ):xz P k'=(xz P k).map φ:=by
 by_cases h:(∃ i,P i)/\∃ r,∀ i,P i->k i=some r
 . obtain⟨h0,r,h1⟩:=h
   rw[zI h0 h1,zI (r:=φ r) h0 fun i hi=>by rw[hk,h1 i hi];rfl];rfl
 . have e:xz P k=none:=by unfold xz;rw[dif_neg h]
   rw[e]
   cases h':xz P k' with
   | none=>rfl
   | some r'=>
     obtain⟨h0,h1⟩:=Gq h'
     refine absurd ⟨h0,?_⟩ h
     obtain⟨i,hi⟩:=h0
     have h2:=h1 i hi
     rw[hk]at h2
     obtain⟨r,hr,rfl⟩:=af.1 h2
     refine⟨r,fun j hj=>?_⟩
     have h3:=h1 j hj
     rw[hk]at h3
     obtain⟨r2,hr2,e2⟩:=af.1 h3
     rw[hr2,hφ _ _ e2]
def n5{κ σ α:Type}(f:κ->σ->Option (σ⊕α))(e:σ->Option α):List κ->σ->Option α
 | [],s=>e s
 | x::l,s=>(f x s).bind fun y=>match y with
   | .inl s'=>n5 f e l s'
   | .inr r=>some r
theorem Jg{κ σ α β:Type}{φ:α->β}{f:κ->σ->Option (σ⊕α)}{f':κ->σ->Option (σ⊕β)}{e:σ->Option α}{e':σ->Option β}(hf:∀ x s,f' x s=(f x s).map (Sum.map id φ))(he:∀ s,e' s=(e s).map φ):∀ (l:List κ) (s:σ),n5 f' e' l s=(n5 f e l s).map φ
 | [],s=>he s
 | x::l,s=>by
   simp only[n5,hf]
   cases f x s with
   | none=>rfl
   | some y=>
     cases y with
     | inl s'=>exact Jg hf he l s'
     | inr r=>rfl
end G
end
section
open IntKind(i64)
namespace G
theorem eZ{α:Type}{l:List α}{k:Nat}(d:α)(h:k<l.length):idx l (k:Int)=some (l.getD k d):=by rw[cH h];simp[h]
theorem tL{α:Type}{l:List α}{i:Int}{k:Nat}(d:α)(hi:i=(k:Int))(h:k<l.length):idx l i=some (l.getD k d):=by subst hi;exact eZ d h
theorem uk{α:Type}{l:List α}{i:Int}{k:Nat}(hi:i=(k:Int))(h:k<l.length):∃ x,idx l i=some x:=⟨_,FR hi h⟩
theorem JR{α:Type}(x:Option α):(x.bind fun y=>some y)=x:=by cases x<;>rfl
theorem iE{σ α γ:Type}{f:σ->Option (σ⊕α)}(l:List γ)(bad:γ->Bool)(st:Nat->σ)(ex:Nat->α)(fin:α)
 (hstep:∀ k (h:k<l.length),bad l[k]=false->f (st k)=some (.inl (st (k+1))))
 (hbad:∀ k (h:k<l.length),bad l[k]=true->f (st k)=some (.inr (ex k)))
 (hend:f (st l.length)=some (.inr fin)) {s:σ} (hs:s=st 0):
 ((∀ x∈l,bad x=false)/\Iter f s=some fin)\/∃ k,∃ h:k<l.length,bad l[k]=true/\(∀ j (hj:j<k),bad (l[j]'(by omega))=false)/\Iter f s=some (ex k):=by
 by_cases hx:l.findIdx bad<l.length
 . refine .inr ⟨_,hx,List.findIdx_getElem,fun j hj=>by simpa using List.not_of_lt_findIdx hj,?_⟩
   exact cD _ st _ (fun k hk=>hstep k (by omega) (by simpa using List.not_of_lt_findIdx hk)) (hbad _ hx List.findIdx_getElem) hs
 . have hall:∀ x∈l,bad x=false:=by
    rw[List.findIdx_lt_length]at hx
    intro x hm
    cases e:bad x with
    | false=>rfl
    | true=>exact absurd ⟨x,hm,e⟩ hx
   exact .inl ⟨hall,cD l.length st fin (fun k hk=>hstep k hk (hall _ (az hk))) hend hs⟩
theorem MX{k:Nat}(h:k<=9223372036854775807):i64.wrap (k:Int)=(k:Int):=fB (by omega) (by omega)
theorem NS{x:Int}{k:Nat}(hx:x=(k:Int))(h:k<=9223372036854775807):i64.wrap (lx .u64 (IntKind.u64.wrap (i64.wrap x)) 1)=((k/2:Nat):Int):=by
 subst hx
 rw[MX h,show IntKind.u64.wrap (k:Int)=(k:Int)by simp only[IntKind.wrap,IntKind.bits,IntKind.signed];simp;omega]
 have:lx .u64 (k:Int) 1=((k/2:Nat):Int):=by
  unfold lx
  rw[show(2:Int) ^ (min (1:Int).toNat IntKind.u64.bits)=2 from rfl,Int.fdiv_eq_ediv_of_nonneg _ (by omega)]
  omega
 rw[this,MX (by omega)]
def Yg{σ α:Type}(f:σ->Option (σ⊕α)):Nat->σ->Option α
 | 0,_=>none
 | n+1,s=>match f s with
   | none=>none
   | some (.inl s')=>Yg f n s'
   | some (.inr a)=>some a
theorem sI{σ α:Type}{f:σ->Option (σ⊕α)}{r:α}:∀ (n:Nat) {s:σ},Yg f n s=some r->Iter f s=some r
 | 0,s,h=>by cases h
 | n+1,s,h=>by
   unfold Yg at h
   split at h
   . cases h
   . rename_i s' hs;rw[rh hs];exact sI n h
   . rename_i a ha;rw[j8 ha];exact h
end G
end
section
structure G.df where
 x:Int
 y:Int
 signed:Bool
 code:UInt8
 deriving DecidableEq,Inhabited
structure G.qZ where
 x:Int
 y:Int
 signed:Bool
 code:UInt8
 deriving DecidableEq,Inhabited
structure G.jH where
 msg:List UInt8
 addr:Int
 deriving DecidableEq,Inhabited
structure G.Command where
 kind:Int
 to:Int
 from_:Int
 len:Int
 data:List UInt8
 deriving DecidableEq,Inhabited
def G.Command.Ok(x:G.Command):Prop:=Zj x.kind/\Zj x.to/\Zj x.from_/\Zj x.len/\Len x.data
structure G.Delta where
 dC:Int
 b5:Int
 oy:Nat->UInt8
 ox:Nat->UInt8
 commands:List G.Command
 deriving Inhabited
def G.Delta.Ok(x:G.Delta):Prop:=Zj x.dC/\Zj x.b5/\(Len x.commands/\∀ y∈x.commands,G.Command.Ok y)
structure G.vD where
 code:Int
 at_:Int
 deriving DecidableEq,Inhabited
structure G.bN where
 from_:Int
 to:Int
 deriving DecidableEq,Inhabited
structure G.bR where
 off:Int
 len:Int
 deriving DecidableEq,Inhabited
structure G.pH where
 dj:G.bR
 deriving DecidableEq,Inhabited
structure G.bO where
 dj:G.bR
 position:Int
 deriving DecidableEq,Inhabited
structure G.Af where
 sorted:List G.bO
 deriving DecidableEq,Inhabited
structure G.bP where
 from_:Int
 to:Int
 deriving DecidableEq,Inhabited
end
end Go.Proofs.YtekpafdhgkocaaaGreat
