/- Part of the proof. -/
import Derived.Test.YtjfkdglgecgjfaaGreatZa0
import Derived.Lib.Index
import GoSem.Core.View
namespace Go.Proofs.YtjfkdglgecgjfaaGreat
section
open IntKind(i64)
namespace G
variable {α β σ:Type}
def QJ(x:Int):Prop:= -9223372036854775808<=x/\x<=9223372036854775807
def idx(l:List α)(i:Int):Option α:=if 0<=i then l[i.toNat]? else none
def mi(l:List α)(i:Int):Option (List α):=if 0<=i/\i<=l.length then some (l.drop i.toNat)else none
def ta(l:List α)(j:Int):Option (List α):=if 0<=j/\j<=l.length then some (l.take j.toNat)else none
def yQ(l:List α)(i j:Int):Option (List α):=if 0<=i/\i<=j/\j<=l.length then some ((l.take j.toNat).drop i.toNat)else none
def app(b:Nat)(l l':List α):Option (List α):=if(l.length+l'.length)*b<=140737488355328 then some (l++l')else none
def mC(p:Prop)[Decidable p]:Option Unit:=if p then some ()else none
def u8(x:Int):UInt8:=UInt8.ofNat (x % 256).toNat
def mZ(a b:Int):Int:=if b<a then b else a
def imax(a b:Int):Int:=if a<b then b else a
def Bs(k:IntKind)(a b:Int):Int:=k.wrap ((BitVec.ofInt k.bits a &&& BitVec.ofInt k.bits b).toNat:Nat)
def PH(k:IntKind)(a b:Int):Int:=k.wrap ((BitVec.ofInt k.bits a ||| BitVec.ofInt k.bits b).toNat:Nat)
def Ew(k:IntKind)(a b:Int):Int:=k.wrap ((BitVec.ofInt k.bits a ^^^ BitVec.ofInt k.bits b).toNat:Nat)
def CX(k:IntKind)(a b:Int):Int:=k.wrap ((BitVec.ofInt k.bits a &&& ~~~(BitVec.ofInt k.bits b)).toNat:Nat)
def B3(k:IntKind)(x y:Int):Int:=k.wrap (x*2 ^ (min y.toNat k.bits))
def uM(k:IntKind)(x y:Int):Int:=x.fdiv (2 ^ (min y.toNat k.bits))
def mX(f g:Nat->UInt8):Bool:=(List.range 32).all fun i=>f i == g i
def tZ{α:Type}(n:Nat)(f:Nat->α):List α:=(List.range n).map f
def nC{α:Type}(f:Nat->α)(i:Int)(v:α):Nat->α:=fun k=>if(k:Int)=i then v else f k
def lH{α:Type}(f:Nat->α)(i:Int):α:=f i.toNat
def Al{α:Type}(f:Nat->α)(i j n:Nat):Nat->α:=fun p=>if i<=p/\p<i+n then f (p-i+j)else f p
def IU{α:Type}(l:List α)(o:Nat)(x:List α):List α:=l.take o++(x.take (l.length-o)++l.drop (o+x.length))
theorem ur{α:Type}{l x:List α}{o:Nat}(h:o<=l.length):(IU l o x).length=l.length:=by
 unfold IU;simp only[ay,aG,aZ];omega
def Om(f:Nat->UInt8)(i m:Nat)(l:List UInt8):Nat->UInt8:=fun p=>if i<=p/\p<i+m then l.getD (p-i) 0 else f p
def vX{α:Type}(l:List α)(o n:Nat)(z:α):List α:=l.take o++(List.replicate n z++l.drop (o+n))
theorem yV{α:Type}{l:List α}{o n:Nat}{z:α}(h:o+n<=l.length):(vX l o n z).length=l.length:=by
 unfold vX;simp only[ay,aG,aZ,aK];omega
def iQ(f:σ->Option (σ⊕α)):Nat->σ->α->Prop
 |0,_,_=>False
 |k+1,s,r=>∃x,f s=some x/\match x with| .inl s'=>iQ f k s' r| .inr a=>a=r
theorem iQ.Qs{f:σ->Option (σ⊕α)}:∀{k j:Nat} {s:σ} {r r':α},iQ f k s r->iQ f j s r'->r=r'
 |0,_,_,_,_,h,_=>h.elim
 |_+1,0,_,_,_,_,h=>h.elim
 |k+1,j+1,s,r,r',⟨x,hx,h⟩,⟨y,hy,h'⟩=>by
  rw[hx]at hy;cases hy
  cases x with
  |inl s'=>exact iQ.Qs h h'
  |inr a=>exact h.symm.trans h'
open Classical in
noncomputable def Iter(f:σ->Option (σ⊕α))(s:σ):Option α:=if h:∃r k,iQ f k s r then some h.choose else none
theorem pR{f:σ->Option (σ⊕α)}{s:σ}{r:α}:Iter f s=some r↔∃k,iQ f k s r:=by
 unfold Iter;constructor
 . intro h;split at h
   . rename_i hx;cases h;exact hx.choose_spec
   . cases h
 . intro⟨k,hk⟩;have hx:∃r k,iQ f k s r:=⟨r,k,hk⟩;rw[dif_pos hx];obtain⟨j,hj⟩:=hx.choose_spec;rw[iQ.Qs hj hk]
def zb(f:σ->Option (σ⊕α))(k:Nat)(r:α):σ⊕α->Prop
 |.inl s'=>∃k',k'<k/\iQ f k' s' r
 |.inr a=>a=r
open Classical in
noncomputable def agree{γ:Type}(a b:Option γ):Option γ:=if a=b then a else none
theorem KY{x:Int}(h1: -9223372036854775808<=x)(h2:x<=9223372036854775807):i64.wrap x=x:=by
 simp only[IntKind.wrap,IntKind.bits,IntKind.signed];simp;split<;>omega
def DC(z:α⊕β)(F:α->Option β):Option β:=match z with| .inl v=>F v| .inr a=>some a
@[simp] theorem NY(v:α)(F:α->Option β):DC (.inl v) F=F v:=rfl
@[simp] theorem NZ(a:β)(F:α->Option β):DC (.inr a) F=some a:=rfl
theorem dG{p:Prop}[Decidable p]{u:Unit}(h:mC p=some u):p:=by
 unfold mC at h;split at h
 . assumption
 . cases h
theorem mY{l:List α}{i:Int}{x:α}(h:idx l i=some x):∃j:Nat,i=(j:Int)/\l[j]?=some x:=by
 unfold idx at h;split at h
 . exact⟨i.toNat,by omega,h⟩
 . cases h
theorem qW{l l':List α}{i:Int}(h:mi l i=some l'):∃j:Nat,i=(j:Int)/\j<=l.length/\l'=l.drop j:=by
 unfold mi at h;split at h
 . cases h;exact⟨i.toNat,by omega,by omega,rfl⟩
 . cases h
theorem pK{l l':List α}{i:Int}(h:ta l i=some l'):∃j:Nat,i=(j:Int)/\j<=l.length/\l'=l.take j:=by
 unfold ta at h;split at h
 . cases h;exact⟨i.toNat,by omega,by omega,rfl⟩
 . cases h
theorem AZ{l l':List α}{i j:Int}(h:yQ l i j=some l'):∃p q:Nat,i=(p:Int)/\j=(q:Int)/\p<=q/\q<=l.length/\l'=(l.take q).drop p:=by
 unfold yQ at h;split at h
 . cases h;exact⟨i.toNat,j.toNat,by omega,by omega,by omega,by omega,rfl⟩
 . cases h
theorem kh{b:Nat}{l l' r:List α}(h:app b l l'=some r):(l.length+l'.length)*b<=140737488355328/\r=l++l':=by
 unfold app at h;split at h
 . cases h;exact⟨by assumption,rfl⟩
 . cases h
theorem QH(x:Int):IntKind.u8.wrap x=x % 256:=by
 simp[IntKind.wrap,IntKind.bits,IntKind.signed]
theorem kW(x:Int):((u8 x).toNat:Int)=x % 256:=by
 unfold u8;have h1:(x % 256).toNat<256:=by omega
 rw[UInt8.toNat_ofNat'];omega
theorem KV(x:Int):IntKind.u8.wrap x=((u8 x).toNat:Int):=by rw[QH,kW]
def DA(x y:Int):Bool:=decide (x=y)
def Iu(x y:List UInt8):Bool:=decide (x=y)
section
variable {κ ν:Type}
def dS(eq:κ->κ->Bool)(l:List (κ×ν))(k:κ):Option ν:=(l.find? fun p=>eq k p.1).map (·.2)
def gW(eq:κ->κ->Bool)(l:List (κ×ν))(k:κ)(v:ν):List (κ×ν):=if(l.any fun p=>eq k p.1)=true then l.map (fun p=>if eq k p.1=true then(k,v)else p)else l++[(k,v)]
def M1(eq:κ->κ->Bool)(l:List (κ×ν))(k:κ):List (κ×ν):=l.filter fun p=>!eq k p.1
def B7(eq:κ->κ->Bool)(l:List (κ×ν))(k:κ)(z:ν):List (κ×ν):=if(l.any fun p=>eq k p.1)=true then l else l++[(k,z)]
end
noncomputable def oQ{ι γ:Type}(P:ι->Prop)(k:ι->Option γ):Option γ:=
 @dite _ ((∃i,P i)/\∃r,∀i,P i->k i=some r) (Classical.propDecidable _) (fun h=>some (Classical.choose h.2)) fun _=>none
theorem tS{ι γ:Type}{P:ι->Prop}{k:ι->Option γ}{r:γ}(h:oQ P k=some r):(∃i,P i)/\∀i,P i->k i=some r:=by
 unfold oQ at h;split at h
 . rename_i hp;have:=ar h;exact⟨hp.1,by rw[<- this];exact Classical.choose_spec hp.2⟩
 . cases h
theorem zk{ι γ:Type}{P:ι->Prop}{k:ι->Option γ}{r:γ}(h0:∃i,P i)(h:∀i,P i->k i=some r):oQ P k=some r:=by
 have hp:(∃i,P i)/\∃r,∀i,P i->k i=some r:=⟨h0,r,h⟩;unfold oQ;rw[dif_pos hp];obtain⟨i,hi⟩:=h0;have:=Classical.choose_spec hp.2 i hi;rw[h i hi]at this;exact this.symm
theorem Er{ι γ γ':Type}{P:ι->Prop}{φ:γ->γ'}(hφ:∀x y,φ x=φ y->x=y){k:ι->Option γ}{k':ι->Option γ'}(hk:∀i,k' i=(k i).map φ):oQ P k'=(oQ P k).map φ:=by
 by_cases h:(∃i,P i)/\∃r,∀i,P i->k i=some r
 . obtain⟨h0,r,h1⟩:=h;rw[zk h0 h1,zk (r:=φ r) h0 fun i hi=>by rw[hk,h1 i hi];rfl];rfl
 . have e:oQ P k=none:=by unfold oQ;rw[dif_neg h]
   rw[e]
   cases h':oQ P k' with
   |none=>rfl
   |some r'=>
    obtain⟨h0,h1⟩:=tS h'
    refine absurd ⟨h0,?_⟩ h
    obtain⟨i,hi⟩:=h0
    have h2:=h1 i hi
    rw[hk]at h2
    obtain⟨r,hr,rfl⟩:=ab.1 h2
    refine⟨r,fun j hj=>?_⟩
    have h3:=h1 j hj
    rw[hk]at h3
    obtain⟨r2,hr2,e2⟩:=ab.1 h3
    rw[hr2,hφ _ _ e2]
def kP{κ σ α:Type}(f:κ->σ->Option (σ⊕α))(e:σ->Option α):List κ->σ->Option α
 |[],s=>e s
 |x::l,s=>(f x s).bind fun y=>match y with
  |.inl s'=>kP f e l s'
  |.inr r=>some r
theorem wW{κ σ α β:Type}{φ:α->β}{f:κ->σ->Option (σ⊕α)}{f':κ->σ->Option (σ⊕β)}{e:σ->Option α}{e':σ->Option β}(hf:∀x s,f' x s=(f x s).map (Sum.map id φ))(he:∀s,e' s=(e s).map φ):∀(l:List κ) (s:σ),kP f' e' l s=(kP f e l s).map φ
 |[],s=>he s
 |x::l,s=>by
  simp only[kP,hf]
  cases f x s with
  |none=>rfl
  |some y=>
   cases y with
   |inl s'=>exact wW hf he l s'
   |inr r=>rfl
end G
end
section
structure G.dn where
 code:Int
 at_:Int
 deriving DecidableEq,Inhabited
structure G.sJ where
 code:Int
 at_:Int
 deriving DecidableEq,Inhabited
structure G.jz where
 kind:Int
 to:Int
 GV:Int
 len:Int
 data:List UInt8
 deriving DecidableEq,Inhabited
structure G.FO where
 Nf:Int
 M5:Int
 Kj:Nat->UInt8
 J8:Nat->UInt8
 Gj:List G.jz
 deriving Inhabited
structure G.pa where
 off:Int
 len:Int
 deriving DecidableEq,Inhabited
structure G.j0 where
 size:Int
 bound:Int
 file:G.pa
 DE:G.pa
 KF:Int
 deriving DecidableEq,Inhabited
structure G.bM where
 index:Int
 command:Int
 chunk:G.jz
 deriving DecidableEq,Inhabited
structure G.sd where
 index:Int
 command:Int
 chunk:G.jz
 deriving DecidableEq,Inhabited
end
end Go.Proofs.YtjfkdglgecgjfaaGreat
