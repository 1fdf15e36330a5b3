/- Part of the proof. -/
import Derived.Test.YtekpafdhgkocaaaGreatZEG
import Derived.KernelRfl
namespace Go.Proofs.YtekpafdhgkocaaaGreat
open G
section
variable {T:Type}[Inhabited T]
def cz(l:List T)(i:Int):T:=l.getD i.toNat default
def sz(l:List T)(i j:Int):List T:=(l.set i.toNat (cz l j)).set j.toNat (cz l i)
theorem vG{l:List T}{i:Int}(h0:0<=i)(h:i<(l.length:Int)):idx l i=some (cz l i):=by
 unfold idx cz;rw[if_pos h0,List.getD_eq_getElem?_getD,List.getElem?_eq_getElem (by omega)];rfl
theorem TN(l:List T)(i j:Int):(sz l i j).length=l.length:=by simp[sz]
theorem XO{l:List T}{m k:Int}{v:T}(hm:0<=m/\m<(l.length:Int))(hk:0<=k):cz (l.set m.toNat v) k=if k=m then v else cz l k:=by
 unfold cz;rw[List.getD_eq_getElem?_getD,List.getElem?_set];by_cases h:k=m
 . subst h;rw[if_pos rfl,if_pos rfl,if_pos (by omega)];rfl
 . rw[if_neg (by omega),if_neg h];simp
theorem Gs{l:List T}{i j:Int}(hi:0<=i/\i<(l.length:Int))(hj:0<=j/\j<(l.length:Int)){k:Int}(hk:0<=k):cz (sz l i j) k=if k=i then cz l j else if k=j then cz l i else cz l k:=by
 unfold sz;rw[XO (by simpa using hj) hk,XO hi hk];by_cases h1:k=j
 . by_cases h2:k=i
   . rw[if_pos h1,if_pos h2,<- h1,<- h2]
   . rw[if_pos h1,if_neg h2,if_pos h1]
 . rw[if_neg h1];by_cases h2:k=i
   . rw[if_pos h2,if_pos h2]
   . rw[if_neg h2,if_neg h2,if_neg h1]
theorem O4{l:List T}{i:Nat}(h:i<l.length):cz l (i:Int)=l[i]:=by
 unfold cz;rw[aM,List.getD_eq_getElem?_getD,List.getElem?_eq_getElem h];rfl
theorem abT{l:List T}{i j:Int}(hi:0<=i/\i<(l.length:Int))(hj:0<=j/\j<(l.length:Int)):(sz l i j).Perm l:=by
 unfold sz;have e1:cz l i=l[i.toNat]'(by omega):=by rw[<- O4 (by omega),Int.toNat_of_nonneg hi.1]
 have e2:cz l j=l[j.toNat]'(by omega):=by rw[<- O4 (by omega),Int.toNat_of_nonneg hj.1]
 rw[e1,e2];exact List.set_set_perm (by omega) (by omega)
inductive tv(a b:Int)(l:List T):List T->Prop
 |refl:tv a b l l
 |step {l':List T} {i j:Int}:tv a b l l'->(a<=i/\i<b)->(a<=j/\j<b)->(0<=i/\i<(l'.length:Int))->(0<=j/\j<(l'.length:Int))->tv a b l (sz l' i j)
variable {a b:Int}{l l' l'':List T}
theorem tv.len(h:tv a b l l'):l'.length=l.length:=by
 induction h with
 |refl=>rfl
 |step _ _ _ _ _ ih=>rw[TN,ih]
theorem tv.trans(h:tv a b l l')(k:tv a b l' l''):tv a b l l'':=by
 induction k with
 |refl=>exact h
 |step _ h1 h2 h3 h4 ih=>exact ih.step h1 h2 h3 h4
theorem tv.mono(h:tv a b l l'){a' b':Int}(ha:a'<=a)(hb:b<=b'):tv a' b' l l':=by
 induction h with
 |refl=>exact .refl
 |step _ h1 h2 h3 h4 ih=>exact ih.step ⟨by omega,by omega⟩ ⟨by omega,by omega⟩ h3 h4
theorem tv.one(i j:Int)(h1:a<=i/\i<b)(h2:a<=j/\j<b)(ha:0<=a)(hb:b<=(l.length:Int)):tv a b l (sz l i j):=tv.refl.step h1 h2 ⟨by omega,by omega⟩ ⟨by omega,by omega⟩
theorem tv.perm(h:tv a b l l'):l'.Perm l:=by
 induction h with
 |refl=>exact .refl _
 |step _ _ _ h3 h4 ih=>exact(abT h3 h4).trans ih
theorem tv.out(h:tv a b l l'){k:Int}(hk:0<=k)(ho:k<a\/b<=k):cz l' k=cz l k:=by
 induction h with
 |refl=>rfl
 |step _ h1 h2 h3 h4 ih=>rw[Gs h3 h4 hk,if_neg (by omega),if_neg (by omega),ih]
theorem tv.all(h:tv a b l l')(P:T->Prop)(hP:∀k,0<=k->a<=k->k<b->P (cz l k)):∀k,0<=k->a<=k->k<b->P (cz l' k):=by
 induction h with
 |refl=>exact hP
 |step _ h1 h2 h3 h4 ih=>
  intro k hk h5 h6
  rw[Gs h3 h4 hk]
  split
  . exact ih _ h4.1 h2.1 h2.2
  . split
    . exact ih _ h3.1 h1.1 h1.2
    . exact ih _ hk h5 h6
end
end Go.Proofs.YtekpafdhgkocaaaGreat
namespace Go.Proofs.YtekpafdhgkocaaaGreat
open IntKind(i64)
open G
class PD (T:Type) extends Inhabited T where
 γ:Type
 c:T->T->Option γ
 f:γ->Bool
 key:T->Int
 g:T->T->γ
 hc:∀x y,c x y=some (g x y)
 hf:∀x y,f (g x y)=decide (key x<key y)
 p:γ->Prop
 dp:∀y,Decidable (p y)
 hp:∀x y,p (g x y)=(key x<key y)
instance {T:Type}[PD T](y:PD.γ T):Decidable (PD.p y):=PD.dp y
noncomputable section
def PD.sd{T:Type}[PD T](a1:Int)(s1:Int×(List T))(s2:Int×(List T)):Option ((Int×(List T))⊕((Int×(List T))⊕(List T))):=
 (
  if s2.1>a1 then
   (idx s2.2 s2.1).bind fun x4=>
   (idx s2.2 (i64.wrap (s2.1-(1:Int)))).bind fun x5=>
   (PD.c x4 x5).bind fun y6=>
   some (PD.f y6)
  else
   some false).bind fun v3=>
 if v3=true then
  (idx s2.2 (i64.wrap (s2.1-(1:Int)))).bind fun x7=>
  (idx s2.2 s2.1).bind fun x8=>
  (idx s2.2 s2.1).bind fun x9=>
  (idx (s2.2.set s2.1.toNat x7) (i64.wrap (s2.1-(1:Int)))).bind fun x10=>
  some (.inl ((i64.wrap (s2.1-(1:Int))),((s2.2.set s2.1.toNat x7).set (i64.wrap (s2.1-(1:Int))).toNat x8)))
 else
  some (.inr (.inl ((i64.wrap (s1.1+(1:Int))),s2.2)))
def PD.vX{T:Type}[PD T](a1:Int)(a2:Int)(s1:Int×(List T)):Option ((Int×(List T))⊕(List T)):=
 if s1.1<a2 then
  Iter (PD.sd a1 s1) (s1.1,s1.2)
 else
  some (.inr s1.2)
def PD.insertionSort{T:Type}[PD T](a0:List T)(a1:Int)(a2:Int):Option (List T):=
 Iter (PD.vX a1 a2) ((i64.wrap (a1+(1:Int))),a0)
def PD.CZ{T:Type}[PD T](a2:Int)(a3:Int)(s1:Int×(List T)):Option ((Int×(List T))⊕(List T)):=
 if(i64.wrap ((i64.wrap ((2:Int)*s1.1))+(1:Int)))≥a2 then
  some (.inr s1.2)
 else
  (
   if(i64.wrap ((i64.wrap ((i64.wrap ((2:Int)*s1.1))+(1:Int)))+(1:Int)))<a2 then
    (idx s1.2 (i64.wrap (a3+(i64.wrap ((i64.wrap ((2:Int)*s1.1))+(1:Int)))))).bind fun x3=>
    (idx s1.2 (i64.wrap ((i64.wrap (a3+(i64.wrap ((i64.wrap ((2:Int)*s1.1))+(1:Int)))))+(1:Int)))).bind fun x4=>
    (PD.c x3 x4).bind fun y5=>
    some (PD.f y5)
   else
    some false).bind fun v2=>
  (
   if v2=true then
    some (i64.wrap ((i64.wrap ((i64.wrap ((2:Int)*s1.1))+(1:Int)))+(1:Int)))
   else
    some (i64.wrap ((i64.wrap ((2:Int)*s1.1))+(1:Int)))).bind fun v6=>
  (idx s1.2 (i64.wrap (a3+s1.1))).bind fun x7=>
  (idx s1.2 (i64.wrap (a3+v6))).bind fun x8=>
  (PD.c x7 x8).bind fun y9=>
  if(PD.f y9)=false then
   some (.inr s1.2)
  else
   (idx s1.2 (i64.wrap (a3+v6))).bind fun x10=>
   (idx s1.2 (i64.wrap (a3+s1.1))).bind fun x11=>
   (idx s1.2 (i64.wrap (a3+s1.1))).bind fun x12=>
   (idx (s1.2.set (i64.wrap (a3+s1.1)).toNat x10) (i64.wrap (a3+v6))).bind fun x13=>
   some (.inl (v6,((s1.2.set (i64.wrap (a3+s1.1)).toNat x10).set (i64.wrap (a3+v6)).toNat x11)))
def PD.CY{T:Type}[PD T](a0:List T)(a1:Int)(a2:Int)(a3:Int):Option (List T):=
 Iter (PD.CZ a2 a3) (a1,a0)
def PD.CA{T:Type}[PD T](a1:Int)(a2:Int)(s2:Int×(List T)):Option ((Int×(List T))⊕(List T)):=
 if s2.1≥(0:Int)then
  (PD.CY s2.2 s2.1 (i64.wrap (a2-a1)) a1).bind fun y3=>
  some (.inl ((i64.wrap (s2.1-(1:Int))),y3))
 else
  some (.inr s2.2)
def PD.CB{T:Type}[PD T](a1:Int)(s4:Int×(List T)):Option ((Int×(List T))⊕(List T)):=
 if s4.1≥(0:Int)then
  (idx s4.2 (i64.wrap (a1+s4.1))).bind fun x5=>
  (idx s4.2 a1).bind fun x6=>
  (idx s4.2 a1).bind fun x7=>
  (idx (s4.2.set a1.toNat x5) (i64.wrap (a1+s4.1))).bind fun x8=>
  (PD.CY ((s4.2.set a1.toNat x5).set (i64.wrap (a1+s4.1)).toNat x6) (0:Int) s4.1 a1).bind fun y9=>
  some (.inl ((i64.wrap (s4.1-(1:Int))),y9))
 else
  some (.inr s4.2)
def PD.Lo{T:Type}[PD T](a0:List T)(a1:Int)(a2:Int):Option (List T):=
 (
  Iter (PD.CA a1 a2) ((i64.wrap (Int.tdiv (i64.wrap ((i64.wrap (a2-a1))-(1:Int))) (2:Int))),a0)).bind fun v1=>
 Iter (PD.CB a1) ((i64.wrap ((i64.wrap (a2-a1))-(1:Int))),v1)
def PD.vM{T:Type}[PD T](a1:Int)(a2:Int)(y1:Int)(s2:Int×(List T)×Int):Option ((Int×(List T)×Int)⊕(List T)):=
 if s2.1<=(i64.wrap ((i64.wrap (a1+(i64.wrap ((i64.wrap (Int.tdiv (i64.wrap (a2-a1)) (4:Int)))*(2:Int)))))+(1:Int)))then
  (hZ s2.2.2).bind fun y3=>
  (
   if(i64.wrap (cV .u64 y3.1 (IntKind.u64.wrap (y1-(1:Int)))))≥(i64.wrap (a2-a1))then
    some (i64.wrap ((i64.wrap (cV .u64 y3.1 (IntKind.u64.wrap (y1-(1:Int)))))-(i64.wrap (a2-a1))))
   else
    some (i64.wrap (cV .u64 y3.1 (IntKind.u64.wrap (y1-(1:Int)))))).bind fun v4=>
  (idx s2.2.1 (i64.wrap (a1+v4))).bind fun x5=>
  (idx s2.2.1 s2.1).bind fun x6=>
  (idx s2.2.1 s2.1).bind fun x7=>
  (idx (s2.2.1.set s2.1.toNat x5) (i64.wrap (a1+v4))).bind fun x8=>
  some (.inl ((i64.wrap (s2.1+(1:Int))),((s2.2.1.set s2.1.toNat x5).set (i64.wrap (a1+v4)).toNat x6),y3.2))
 else
  some (.inr s2.2.1)
def PD.wv{T:Type}[PD T](a0:List T)(a1:Int)(a2:Int):Option (List T):=
 if(i64.wrap (a2-a1))≥(8:Int)then
  (fG (i64.wrap (a2-a1))).bind fun y1=>
  Iter (PD.vM a1 a2 y1) ((i64.wrap ((i64.wrap (a1+(i64.wrap ((i64.wrap (Int.tdiv (i64.wrap (a2-a1)) (4:Int)))*(2:Int)))))-(1:Int))),a0,(IntKind.u64.wrap (i64.wrap (a2-a1))))
 else
  some a0
def PD.LX{T:Type}[PD T](a0:List T)(a1:Int)(a2:Int)(a3:Int):Option (Int×Int×Int):=
 (idx a0 a2).bind fun x1=>
 (idx a0 a1).bind fun x2=>
 (PD.c x1 x2).bind fun y3=>
 if PD.p y3 then
  some (a2,a1,(i64.wrap (a3+(1:Int))))
 else
  some (a1,a2,a3)
def PD.Po{T:Type}[PD T](a0:List T)(a1:Int)(a2:Int)(a3:Int)(a4:Int):Option (Int×Int):=
 (PD.LX a0 a1 a2 a4).bind fun y1=>
 (PD.LX a0 y1.2.1 a3 y1.2.2).bind fun y2=>
 (PD.LX a0 y1.1 y2.1 y2.2.2).bind fun y3=>
 some (y3.2.1,y3.2.2)
def PD.yI{T:Type}[PD T](a0:List T)(a1:Int)(a2:Int):Option (Int×Int):=
 (PD.Po a0 (i64.wrap (a1-(1:Int))) a1 (i64.wrap (a1+(1:Int))) a2).bind fun y1=>
 some (y1.1,y1.2)
def PD.Cq{T:Type}[PD T](a0:List T)(a1:Int)(a2:Int):Option (Int×Int):=
 (
  if(i64.wrap (a2-a1))≥(8:Int)then
   (
    if(i64.wrap (a2-a1))≥(50:Int)then
     (PD.yI a0 (i64.wrap (a1+(i64.wrap ((i64.wrap (Int.tdiv (i64.wrap (a2-a1)) (4:Int)))*(1:Int))))) (0:Int)).bind fun y3=>
     (PD.yI a0 (i64.wrap (a1+(i64.wrap ((i64.wrap (Int.tdiv (i64.wrap (a2-a1)) (4:Int)))*(2:Int))))) y3.2).bind fun y4=>
     (PD.yI a0 (i64.wrap (a1+(i64.wrap ((i64.wrap (Int.tdiv (i64.wrap (a2-a1)) (4:Int)))*(3:Int))))) y4.2).bind fun y5=>
     some (y3.1,y4.1,y5.1,y5.2)
    else
     some ((i64.wrap (a1+(i64.wrap ((i64.wrap (Int.tdiv (i64.wrap (a2-a1)) (4:Int)))*(1:Int))))),(i64.wrap (a1+(i64.wrap ((i64.wrap (Int.tdiv (i64.wrap (a2-a1)) (4:Int)))*(2:Int))))),(i64.wrap (a1+(i64.wrap ((i64.wrap (Int.tdiv (i64.wrap (a2-a1)) (4:Int)))*(3:Int))))),(0:Int))).bind fun v2=>
   (PD.Po a0 v2.1 v2.2.1 v2.2.2.1 v2.2.2.2).bind fun y6=>
   some (y6.1,y6.2)
  else
   some ((i64.wrap (a1+(i64.wrap ((i64.wrap (Int.tdiv (i64.wrap (a2-a1)) (4:Int)))*(2:Int))))),(0:Int))).bind fun v1=>
 if v1.2=(0:Int)then
  some (v1.1,(1:Int))
 else
  if v1.2=(12:Int)then
   some (v1.1,(2:Int))
  else
   some (v1.1,(0:Int))
def PD.xp{T:Type}[PD T](s1:Int×Int×(List T)):Option ((Int×Int×(List T))⊕(List T)):=
 if s1.1<s1.2.1 then
  (idx s1.2.2 s1.2.1).bind fun x2=>
  (idx s1.2.2 s1.1).bind fun x3=>
  (idx s1.2.2 s1.1).bind fun x4=>
  (idx (s1.2.2.set s1.1.toNat x2) s1.2.1).bind fun x5=>
  some (.inl ((i64.wrap (s1.1+(1:Int))),(i64.wrap (s1.2.1-(1:Int))),((s1.2.2.set s1.1.toNat x2).set s1.2.1.toNat x3)))
 else
  some (.inr s1.2.2)
def PD.xY{T:Type}[PD T](a0:List T)(a1:Int)(a2:Int):Option (List T):=
 Iter PD.xp (a1,(i64.wrap (a2-(1:Int))),a0)
def PD.po{T:Type}[PD T](a2:Int)(s1:Int×Int×(List T))(s3:Int):Option (Int⊕Int):=
 (
  if s3<a2 then
   (idx s1.2.2 s3).bind fun x5=>
   (idx s1.2.2 (i64.wrap (s3-(1:Int)))).bind fun x6=>
   (PD.c x5 x6).bind fun y7=>
   some (!(PD.f y7))
  else
   some false).bind fun v4=>
 if v4=true then
  some (.inl (i64.wrap (s3+(1:Int))))
 else
  some (.inr s3)
def PD.Aw{T:Type}[PD T](s13:Int×(List T)):Option ((Int×(List T))⊕(List T)):=
 if s13.1≥(1:Int)then
  (idx s13.2 s13.1).bind fun x14=>
  (idx s13.2 (i64.wrap (s13.1-(1:Int)))).bind fun x15=>
  (PD.c x14 x15).bind fun y16=>
  if(PD.f y16)=false then
   some (.inr s13.2)
  else
   (idx s13.2 (i64.wrap (s13.1-(1:Int)))).bind fun x17=>
   (idx s13.2 s13.1).bind fun x18=>
   (idx s13.2 s13.1).bind fun x19=>
   (idx (s13.2.set s13.1.toNat x17) (i64.wrap (s13.1-(1:Int)))).bind fun x20=>
   some (.inl ((i64.wrap (s13.1-(1:Int))),((s13.2.set s13.1.toNat x17).set (i64.wrap (s13.1-(1:Int))).toNat x18)))
 else
  some (.inr s13.2)
def PD.Ax{T:Type}[PD T](a2:Int)(s1:Int×Int×(List T))(v2:Int)(s21:Int×(List T)):Option ((Int×(List T))⊕((Int×Int×(List T))⊕(Bool×(List T)))):=
 if s21.1<a2 then
  (idx s21.2 s21.1).bind fun x22=>
  (idx s21.2 (i64.wrap (s21.1-(1:Int)))).bind fun x23=>
  (PD.c x22 x23).bind fun y24=>
  if(PD.f y24)=false then
   some (.inr (.inl (v2,(i64.wrap (s1.2.1+(1:Int))),s21.2)))
  else
   (idx s21.2 (i64.wrap (s21.1-(1:Int)))).bind fun x25=>
   (idx s21.2 s21.1).bind fun x26=>
   (idx s21.2 s21.1).bind fun x27=>
   (idx (s21.2.set s21.1.toNat x25) (i64.wrap (s21.1-(1:Int)))).bind fun x28=>
   some (.inl ((i64.wrap (s21.1+(1:Int))),((s21.2.set s21.1.toNat x25).set (i64.wrap (s21.1-(1:Int))).toNat x26)))
 else
  some (.inr (.inl (v2,(i64.wrap (s1.2.1+(1:Int))),s21.2)))
def PD.pn{T:Type}[PD T](a1:Int)(a2:Int)(s1:Int×Int×(List T)):Option ((Int×Int×(List T))⊕(Bool×(List T))):=
 if s1.2.1<(5:Int)then
  (
   Iter (PD.po a2 s1) s1.1).bind fun v2=>
  if v2=a2 then
   some (.inr (true,s1.2.2))
  else
   if(i64.wrap (a2-a1))<(50:Int)then
    some (.inr (false,s1.2.2))
   else
    (idx s1.2.2 (i64.wrap (v2-(1:Int)))).bind fun x8=>
    (idx s1.2.2 v2).bind fun x9=>
    (idx s1.2.2 v2).bind fun x10=>
    (idx (s1.2.2.set v2.toNat x8) (i64.wrap (v2-(1:Int)))).bind fun x11=>
    (
     if(i64.wrap (v2-a1))≥(2:Int)then
      Iter PD.Aw ((i64.wrap (v2-(1:Int))),((s1.2.2.set v2.toNat x8).set (i64.wrap (v2-(1:Int))).toNat x9))
     else
      some ((s1.2.2.set v2.toNat x8).set (i64.wrap (v2-(1:Int))).toNat x9)).bind fun v12=>
    if(i64.wrap (a2-v2))≥(2:Int)then
     Iter (PD.Ax a2 s1 v2) ((i64.wrap (v2+(1:Int))),v12)
    else
     some (.inl (v2,(i64.wrap (s1.2.1+(1:Int))),v12))
 else
  some (.inr (false,s1.2.2))
def PD.lb{T:Type}[PD T](a0:List T)(a1:Int)(a2:Int):Option (Bool×(List T)):=
 Iter (PD.pn a1 a2) ((i64.wrap (a1+(1:Int))),(0:Int),a0)
def PD.vj{T:Type}[PD T](a1:Int)(s5:Int×Int×(List T))(s7:Int):Option (Int⊕Int):=
 (
  if s7<=s5.2.1 then
   (idx s5.2.2 a1).bind fun x9=>
   (idx s5.2.2 s7).bind fun x10=>
   (PD.c x9 x10).bind fun y11=>
   some (!(PD.f y11))
  else
   some false).bind fun v8=>
 if v8=true then
  some (.inl (i64.wrap (s7+(1:Int))))
 else
  some (.inr s7)
def PD.vk{T:Type}[PD T](a1:Int)(s5:Int×Int×(List T))(v6:Int)(s13:Int):Option (Int⊕Int):=
 (
  if v6<=s13 then
   (idx s5.2.2 a1).bind fun x15=>
   (idx s5.2.2 s13).bind fun x16=>
   (PD.c x15 x16).bind fun y17=>
   some (PD.f y17)
  else
   some false).bind fun v14=>
 if v14=true then
  some (.inl (i64.wrap (s13-(1:Int))))
 else
  some (.inr s13)
def PD.vi{T:Type}[PD T](a1:Int)(s5:Int×Int×(List T)):Option ((Int×Int×(List T))⊕(Int×(List T))):=
 (
  Iter (PD.vj a1 s5) s5.1).bind fun v6=>
 (
  Iter (PD.vk a1 s5 v6) s5.2.1).bind fun v12=>
 if v6>v12 then
  some (.inr (v6,s5.2.2))
 else
  (idx s5.2.2 v12).bind fun x18=>
  (idx s5.2.2 v6).bind fun x19=>
  (idx s5.2.2 v6).bind fun x20=>
  (idx (s5.2.2.set v6.toNat x18) v12).bind fun x21=>
  some (.inl ((i64.wrap (v6+(1:Int))),(i64.wrap (v12-(1:Int))),((s5.2.2.set v6.toNat x18).set v12.toNat x19)))
def PD.yJ{T:Type}[PD T](a0:List T)(a1:Int)(a2:Int)(a3:Int):Option (Int×(List T)):=
 (idx a0 a3).bind fun x1=>
 (idx a0 a1).bind fun x2=>
 (idx a0 a1).bind fun x3=>
 (idx (a0.set a1.toNat x1) a3).bind fun x4=>
 Iter (PD.vi a1) ((i64.wrap (a1+(1:Int))),(i64.wrap (a2-(1:Int))),((a0.set a1.toNat x1).set a3.toNat x2))
def PD.Br{T:Type}[PD T](a0:(List T))(a1:Int)(a2:Int)(a3:Int)(x1:T)(x2:T)(s6:Int):Option (Int⊕Int):=
 (
  if s6<=(i64.wrap (a2-(1:Int)))then
   (idx ((a0.set a1.toNat x1).set a3.toNat x2) s6).bind fun x8=>
   (idx ((a0.set a1.toNat x1).set a3.toNat x2) a1).bind fun x9=>
   (PD.c x8 x9).bind fun y10=>
   some (PD.f y10)
  else
   some false).bind fun v7=>
 if v7=true then
  some (.inl (i64.wrap (s6+(1:Int))))
 else
  some (.inr s6)
def PD.Bs{T:Type}[PD T](a0:(List T))(a1:Int)(a3:Int)(x1:T)(x2:T)(v5:Int)(s12:Int):Option (Int⊕Int):=
 (
  if v5<=s12 then
   (idx ((a0.set a1.toNat x1).set a3.toNat x2) s12).bind fun x14=>
   (idx ((a0.set a1.toNat x1).set a3.toNat x2) a1).bind fun x15=>
   (PD.c x14 x15).bind fun y16=>
   some (!(PD.f y16))
  else
   some false).bind fun v13=>
 if v13=true then
  some (.inl (i64.wrap (s12-(1:Int))))
 else
  some (.inr s12)
def PD.Bu{T:Type}[PD T](a1:Int)(s26:Int×Int×(List T))(s28:Int):Option (Int⊕Int):=
 (
  if s28<=s26.2.1 then
   (idx s26.2.2 s28).bind fun x30=>
   (idx s26.2.2 a1).bind fun x31=>
   (PD.c x30 x31).bind fun y32=>
   some (PD.f y32)
  else
   some false).bind fun v29=>
 if v29=true then
  some (.inl (i64.wrap (s28+(1:Int))))
 else
  some (.inr s28)
def PD.Bv{T:Type}[PD T](a1:Int)(s26:Int×Int×(List T))(v27:Int)(s34:Int):Option (Int⊕Int):=
 (
  if v27<=s34 then
   (idx s26.2.2 s34).bind fun x36=>
   (idx s26.2.2 a1).bind fun x37=>
   (PD.c x36 x37).bind fun y38=>
   some (!(PD.f y38))
  else
   some false).bind fun v35=>
 if v35=true then
  some (.inl (i64.wrap (s34-(1:Int))))
 else
  some (.inr s34)
def PD.Bt{T:Type}[PD T](a1:Int)(s26:Int×Int×(List T)):Option ((Int×Int×(List T))⊕(Int×(List T))):=
 (
  Iter (PD.Bu a1 s26) s26.1).bind fun v27=>
 (
  Iter (PD.Bv a1 s26 v27) s26.2.1).bind fun v33=>
 if v27>v33 then
  some (.inr (v33,s26.2.2))
 else
  (idx s26.2.2 v33).bind fun x39=>
  (idx s26.2.2 v27).bind fun x40=>
  (idx s26.2.2 v27).bind fun x41=>
  (idx (s26.2.2.set v27.toNat x39) v33).bind fun x42=>
  some (.inl ((i64.wrap (v27+(1:Int))),(i64.wrap (v33-(1:Int))),((s26.2.2.set v27.toNat x39).set v33.toNat x40)))
def PD.partition{T:Type}[PD T](a0:List T)(a1:Int)(a2:Int)(a3:Int):Option (Int×Bool×(List T)):=
 (idx a0 a3).bind fun x1=>
 (idx a0 a1).bind fun x2=>
 (idx a0 a1).bind fun x3=>
 (idx (a0.set a1.toNat x1) a3).bind fun x4=>
 (
  Iter (PD.Br a0 a1 a2 a3 x1 x2) (i64.wrap (a1+(1:Int)))).bind fun v5=>
 (
  Iter (PD.Bs a0 a1 a3 x1 x2 v5) (i64.wrap (a2-(1:Int)))).bind fun v11=>
 if v5>v11 then
  (idx ((a0.set a1.toNat x1).set a3.toNat x2) a1).bind fun x17=>
  (idx ((a0.set a1.toNat x1).set a3.toNat x2) v11).bind fun x18=>
  (idx ((a0.set a1.toNat x1).set a3.toNat x2) v11).bind fun x19=>
  (idx (((a0.set a1.toNat x1).set a3.toNat x2).set v11.toNat x17) a1).bind fun x20=>
  some (v11,true,((((a0.set a1.toNat x1).set a3.toNat x2).set v11.toNat x17).set a1.toNat x18))
 else
  (idx ((a0.set a1.toNat x1).set a3.toNat x2) v11).bind fun x21=>
  (idx ((a0.set a1.toNat x1).set a3.toNat x2) v5).bind fun x22=>
  (idx ((a0.set a1.toNat x1).set a3.toNat x2) v5).bind fun x23=>
  (idx (((a0.set a1.toNat x1).set a3.toNat x2).set v5.toNat x21) v11).bind fun x24=>
  (
   Iter (PD.Bt a1) ((i64.wrap (v5+(1:Int))),(i64.wrap (v11-(1:Int))),((((a0.set a1.toNat x1).set a3.toNat x2).set v5.toNat x21).set v11.toNat x22))).bind fun v25=>
  (idx v25.2 a1).bind fun x43=>
  (idx v25.2 v25.1).bind fun x44=>
  (idx v25.2 v25.1).bind fun x45=>
  (idx (v25.2.set v25.1.toNat x43) a1).bind fun x46=>
  some (v25.1,false,((v25.2.set v25.1.toNat x43).set a1.toNat x44))
def PD.oc{T:Type}[PD T](fx:((List T)×Int×Int×Int)->Option (List T))(s1:Int×Int×Int×Bool×Bool×(List T)):Option ((Int×Int×Int×Bool×Bool×(List T))⊕(List T)):=
 if(i64.wrap (s1.2.1-s1.1))<=(12:Int)then
  (PD.insertionSort s1.2.2.2.2.2 s1.1 s1.2.1).bind fun y2=>
  some (.inr y2)
 else
  if s1.2.2.1=(0:Int)then
   (PD.Lo s1.2.2.2.2.2 s1.1 s1.2.1).bind fun y3=>
   some (.inr y3)
  else
   (
    if s1.2.2.2.1=false then
     (PD.wv s1.2.2.2.2.2 s1.1 s1.2.1).bind fun y5=>
     some ((i64.wrap (s1.2.2.1-(1:Int))),y5)
    else
     some (s1.2.2.1,s1.2.2.2.2.2)).bind fun v4=>
   (PD.Cq v4.2 s1.1 s1.2.1).bind fun y6=>
   (
    if y6.2=(2:Int)then
     (PD.xY v4.2 s1.1 s1.2.1).bind fun y8=>
     some ((i64.wrap ((i64.wrap (s1.2.1-(1:Int)))-(i64.wrap (y6.1-s1.1)))),(1:Int),y8)
    else
     some (y6.1,y6.2,v4.2)).bind fun v7=>
   (
    if s1.2.2.2.1=true then
     if s1.2.2.2.2.1=true then
      some (v7.2.1 == (1:Int))
     else
      some false
    else
     some false).bind fun v9=>
   ((
    if v9=true then
     (PD.lb v7.2.2 s1.1 s1.2.1).bind fun y12=>
     if y12.1=true then
      some (.inr (.inr y12.2))
     else
      some (.inl y12.2)
    else
     some (.inl v7.2.2)):Option ((List T)⊕((Int×Int×Int×Bool×Bool×(List T))⊕(List T)))).bind fun v10=>uq v10 fun u11=>
   (
    if s1.1>(0:Int)then
     (idx u11 (i64.wrap (s1.1-(1:Int)))).bind fun x14=>
     (idx u11 v7.1).bind fun x15=>
     (PD.c x14 x15).bind fun y16=>
     some (!(PD.f y16))
    else
     some false).bind fun v13=>
   if v13=true then
    (PD.yJ u11 s1.1 s1.2.1 v7.1).bind fun y17=>
    some (.inl (y17.1,s1.2.1,v4.1,s1.2.2.2.1,s1.2.2.2.2.1,y17.2))
   else
    (PD.partition u11 s1.1 s1.2.1 v7.1).bind fun y18=>
    if(i64.wrap (y18.1-s1.1))<(i64.wrap (s1.2.1-y18.1))then
     (fx (y18.2.2,s1.1,y18.1,v4.1)).bind fun y19=>
     some (.inl ((i64.wrap (y18.1+(1:Int))),s1.2.1,v4.1,(decide ((i64.wrap (y18.1-s1.1))≥(i64.wrap (Int.tdiv (i64.wrap (s1.2.1-s1.1)) (8:Int))))),y18.2.1,y19))
    else
     (fx (y18.2.2,(i64.wrap (y18.1+(1:Int))),s1.2.1,v4.1)).bind fun y20=>
     some (.inl (s1.1,y18.1,v4.1,(decide ((i64.wrap (s1.2.1-y18.1))≥(i64.wrap (Int.tdiv (i64.wrap (s1.2.1-s1.1)) (8:Int))))),y18.2.1,y20))
def PD.WA{T:Type}[PD T](fx:((List T)×Int×Int×Int)->Option (List T))(a0:List T)(a1:Int)(a2:Int)(a3:Int):Option (List T):=
 Iter (PD.oc fx) (a1,a2,a3,true,true,a0)
def PD.N2{T:Type}[PD T](fx:((List T)×Int×Int×Int)->Option (List T))(x:(List T)×Int×Int×Int):Option (List T):=PD.WA fx x.1 x.2.1 x.2.2.1 x.2.2.2
def PD.Ki{T:Type}[PD T](a0:List T)(a1:Int)(a2:Int)(a3:Int):Option (List T):=Fix PD.N2 (a0,a1,a2,a3)
def PD.Cb{T:Type}[PD T](a0:List T):Option (List T):=
 (mJ (IntKind.u64.wrap (a0.length:Int))).bind fun y1=>
 (PD.Ki a0 (0:Int) (a0.length:Int) y1).bind fun y2=>
 some y2
end
end Go.Proofs.YtekpafdhgkocaaaGreat
namespace Go.Proofs.YtekpafdhgkocaaaGreat
open IntKind(i64)
open G
namespace PD
variable {T:Type}[PD T]
variable {l:List T}{a b:Int}
def uK(l:List T)(a b:Int):Prop:=∀p q,a<=p->p<q->q<b->key (cz l p)<=key (cz l q)
theorem ac9{i:Int}(ha:0<=a)(hai:a<=i)(hib:i<b)(hb:b<=(l.length:Int))(hn:l.length<=1000)(hs:uK l a i):
 ∃l',Iter (PD.sd a (i,l)) (i,l)=some (.inl (i+1,l'))/\tv a b l l'/\uK l' a (i+1):=by
 obtain⟨r,h1,l',rfl,h2,h3⟩:=ck (f:=PD.sd a (i,l))
  (fun m s=>∃(j:Int) (l1:List T),s=(j,l1)/\m=j.toNat/\a<=j/\j<=i/\tv a b l l1/\∀p q,a<=p->p<q->q<=i->q≠j->key (cz l1 p)<=key (cz l1 q))
  (fun r=>∃l',r=.inl (i+1,l')/\tv a b l l'/\uK l' a (i+1)) (by
   rintro m s ⟨j,l1,rfl,rfl,h1,h2,h3,h4⟩;have hl:=h3.len;have w1:i64.wrap (j-1)=j-1:=fm (by omega) (by omega);have w2:i64.wrap (i+1)=i+1:=fm (by omega) (by omega);unfold PD.sd;simp only[w1,w2];by_cases hj:j>a
   . have e1:idx l1 j=some (cz l1 j):=vG (by omega) (by omega);have e2:idx l1 (j-1)=some (cz l1 (j-1)):=vG (by omega) (by omega);have e3:idx (l1.set j.toNat (cz l1 (j-1))) (j-1)=some _:=vG (by omega) (by rw[bJ];omega);simp only[if_pos hj,e1,e2,e3,PD.hc,aa,PD.hf,PD.hp,au];by_cases hc:key (cz l1 j)<key (cz l1 (j-1))
     . rw[if_pos hc];refine .inl ⟨_,_,rfl,?_,j-1,sz l1 j (j-1),rfl,rfl,by omega,by omega,h3.step ⟨by omega,by omega⟩ ⟨by omega,by omega⟩ ⟨by omega,by omega⟩ ⟨by omega,by omega⟩,fun p q hp hpq hq hne=>?_⟩
       . omega
       . have c:=fun(k:Int) (hk:0<=k)=>Gs (l:=l1) (i:=j) (j:=j-1) ⟨by omega,by omega⟩ ⟨by omega,by omega⟩ hk
         have A:=h4 p q;have B:=h4 (j-1) q;have C:=h4 j q;have D:=h4 p (j-1);rw[c p (by omega),c q (by omega)]
         repeat' split
         all_goals omega
     . rw[if_neg hc];refine .inr ⟨_,rfl,l1,rfl,h3,fun p q hp hpq hq=>?_⟩;have A:=h4 p q;have D:=h4 p (j-1);by_cases e:q=j
       . subst e;by_cases e2:p=q-1
         . subst e2;omega
         . omega
       . omega
   . simp only[if_neg hj,aa];rw[if_neg (by decide)];refine .inr ⟨_,rfl,l1,rfl,h3,fun p q hp hpq hq=>h4 p q hp hpq (by omega) (by omega)⟩) i.toNat (i,l) ⟨i,l,rfl,rfl,hai,Int.le_refl _,.refl,fun p q hp hpq hq hne=>hs p q hp hpq (by omega)⟩
 exact⟨l',h1,h2,h3⟩
theorem ada(ha:0<=a)(hab:a<=b)(hb:b<=(l.length:Int))(hn:l.length<=1000):∃l',PD.insertionSort l a b=some l'/\tv a b l l'/\uK l' a b:=by
 unfold PD.insertionSort;rw[fm (by omega) (by omega)];exact ck (f:=PD.vX a b)
  (fun m s=>∃(i:Int) (l1:List T),s=(i,l1)/\m=(b-i).toNat/\a<i/\tv a b l l1/\uK l1 a i)
  (fun l'=>tv a b l l'/\uK l' a b) (by
   rintro m s ⟨i,l1,rfl,rfl,h1,h2,h3⟩;have hl:=h2.len;unfold PD.vX;simp only;by_cases hi:i<b
   . obtain⟨l',k1,k2,k3⟩:=ac9 (b:=b) ha (by omega) hi (by omega) (by omega) h3;rw[if_pos hi,k1];exact .inl ⟨_,_,rfl,by omega,i+1,l',rfl,rfl,by omega,h2.trans k2,k3⟩
   . rw[if_neg hi];exact .inr ⟨_,rfl,h2,fun p q hp hpq hq=>h3 p q hp hpq (by omega)⟩) _ _ ⟨a+1,l,rfl,rfl,by omega,.refl,fun p q hp hpq hq=>by omega⟩
def HP(l:List T)(lo hi f r:Int):Prop:=∀c,1<=c->c<hi->lo<=(c-1)/2->(c-1)/2≠r->key (cz l (f+c))<=key (cz l (f+(c-1)/2))
theorem U7{lo hi f:Int}(hf:0<=f)(hlo:0<=lo)(hhi:f+hi<=(l.length:Int))(hn:l.length<=1000)(hlo2:lo<=1000)(hhi2:0<=hi)(hp:HP l lo hi f lo):
 ∃l',PD.CY l lo hi f=some l'/\tv f (f+hi) l l'/\HP l' lo hi f (-1):=by
 unfold PD.CY
 exact ck (f:=PD.CZ hi f)
  (fun m s=>∃(r:Int) (l1:List T),s=(r,l1)/\m=(hi-r).toNat/\lo<=r/\r<=1000/\tv f (f+hi) l l1/\HP l1 lo hi f r/\∀c,1<=c->c<hi->(c-1)/2=r->1<=r->lo<=(r-1)/2->key (cz l1 (f+c))<=key (cz l1 (f+(r-1)/2)))
  (fun l'=>tv f (f+hi) l l'/\HP l' lo hi f (-1)) (by
   rintro m s ⟨r,l1,rfl,rfl,h1,hr,h2,h3,h4⟩;have hl:=h2.len;unfold PD.CZ;have w1:i64.wrap (2*r)=2*r:=fm (by omega) (by omega);have w2:i64.wrap (2*r+1)=2*r+1:=fm (by omega) (by omega);have w3:i64.wrap (2*r+1+1)=2*r+2:=by rw[fm (by omega) (by omega)];omega
   have w4:i64.wrap (f+(2*r+1))=f+(2*r+1):=fm (by omega) (by omega);have w5:i64.wrap (f+(2*r+1)+1)=f+(2*r+2):=by rw[fm (by omega) (by omega)];omega
   have w6:i64.wrap (f+r)=f+r:=fm (by omega) (by omega);simp only[w1,w2,w3,w4,w5,w6];by_cases hc:2*r+1≥hi
   . rw[if_pos hc];refine .inr ⟨_,rfl,h2,fun c k1 k2 k3 _=>?_⟩;exact h3 c k1 k2 k3 (by omega)
   rw[if_neg hc];have hv:∃c0,(c0=2*r+1\/c0=2*r+2)/\c0<hi/\(∀c,c<hi->c=2*r+1\/c=2*r+2->key (cz l1 (f+c))<=key (cz l1 (f+c0)))/\
    (((if 2*r+2<hi then(idx l1 (f+(2*r+1))).bind fun x3=>(idx l1 (f+(2*r+2))).bind fun x4=>(PD.c x3 x4).bind fun y5=>some (PD.f y5)else some false).bind fun v2=>if v2=true then some (2*r+2)else some (2*r+1))=some c0):=by
    by_cases hc2:2*r+2<hi
    . rw[if_pos hc2,vG (by omega) (by omega),vG (by omega) (by omega)]
      simp only[aa,PD.hc,PD.hf,PD.hp,au]
      by_cases hk:key (cz l1 (f+(2*r+1)))<key (cz l1 (f+(2*r+2)))
      . rw[if_pos hk]
        exact⟨_,.inr rfl,hc2,fun c _ hc=>by rcases hc with rfl|rfl<;>omega,rfl⟩
      . rw[if_neg hk]
        exact⟨_,.inl rfl,by omega,fun c _ hc=>by rcases hc with rfl|rfl<;>omega,rfl⟩
    . rw[if_neg hc2]
      refine⟨2*r+1,.inl rfl,by omega,fun c h hc=>?_,rfl⟩
      rcases hc with rfl|rfl
      . exact Int.le_refl _
      . omega
   obtain⟨c0,q1,q2,q3,q4⟩:=hv;have q4:∀{β:Type} (K:Int->Option β),((if 2*r+2<hi then(idx l1 (f+(2*r+1))).bind fun x3=>(idx l1 (f+(2*r+2))).bind fun x4=>(PD.c x3 x4).bind fun y5=>some (PD.f y5)else some false).bind fun v2=>(if v2=true then some (2*r+2)else some (2*r+1)).bind K)=K c0:=fun{β} K=>by
    have:=congrArg (fun o=>Option.bind o K) q4;simp only[aG,aa]at this;exact this
   rw[q4];have w7:i64.wrap (f+c0)=f+c0:=fm (by omega) (by omega);have e1:idx l1 (f+r)=some (cz l1 (f+r)):=vG (by omega) (by omega);have e2:idx l1 (f+c0)=some (cz l1 (f+c0)):=vG (by omega) (by omega);have e3:idx (l1.set (f+r).toNat (cz l1 (f+c0))) (f+c0)=some _:=vG (by omega) (by rw[bJ];omega);simp only[w7,e1,e2,e3,PD.hc,aa,PD.hf,PD.hp,bh];by_cases hk:key (cz l1 (f+r))<key (cz l1 (f+c0))
   . rw[if_neg (fun h=>h hk)];have c:=fun(k:Int) (hk:0<=k)=>Gs (l:=l1) (i:=f+r) (j:=f+c0) ⟨by omega,by omega⟩ ⟨by omega,by omega⟩ hk
     refine .inl ⟨_,_,rfl,by omega,c0,sz l1 (f+r) (f+c0),rfl,rfl,by omega,by omega,h2.step ⟨by omega,by omega⟩ ⟨by omega,by omega⟩ ⟨by omega,by omega⟩ ⟨by omega,by omega⟩,fun x k1 k2 k3 k4=>?_,fun x k1 k2 k3 k4 k5=>?_⟩
     . rw[c (f+x) (by omega),c (f+(x-1)/2) (by omega)];have A:=h3 x k1 k2 k3;have B:=h4 c0 (by omega) q2 (by omega);have C:=q3 x k2;by_cases e1:(x-1)/2=r
       . by_cases e3:x=c0
         . rw[if_neg (by omega),if_pos (by omega),if_pos (by omega)];omega
         . rw[if_neg (by omega),if_neg (by omega),if_pos (by omega)];exact C (by omega)
       . by_cases e2:x=r
         . subst e2;rw[if_pos rfl,if_neg (by omega),if_neg (by omega)];exact B (by omega) k3
         . rw[if_neg (by omega),if_neg (by omega),if_neg (by omega),if_neg (by omega)];exact A e1
     . rw[c (f+x) (by omega),c (f+(c0-1)/2) (by omega),if_neg (by omega),if_neg (by omega),if_pos (by omega)];have A:=h3 x k1 k2 (by omega) (by omega);rw[k3]at A;exact A
   . rw[if_pos hk];refine .inr ⟨_,rfl,h2,fun x k1 k2 k3 _=>?_⟩;by_cases e:(x-1)/2=r
     . have:=q3 x k2 (by omega);rw[e];omega
     . exact h3 x k1 k2 k3 e) _ _ ⟨lo,l,rfl,rfl,Int.le_refl _,hlo2,.refl,hp,fun c _ _ _ _ _=>by omega⟩
theorem QM{hi f:Int}(h:HP l 0 hi f (-1)):∀(n:Nat) (c:Int),c.toNat<=n->0<=c->c<hi->key (cz l (f+c))<=key (cz l f)
 |0,c,hn,h0,h1=>by
  have:c=0:=by omega
  subst this;rw[Int.add_zero];exact Int.le_refl _
 |n+1,c,hn,h0,h1=>by
  by_cases e:c=0
  . subst e;rw[Int.add_zero];exact Int.le_refl _
  . exact Int.le_trans (h c (by omega) h1 (by omega) (by omega)) (QM h n _ (by omega) (by omega) (by omega))
theorem aaH(ha:0<=a)(hab:a+1<=b)(hb:b<=(l.length:Int))(hn:l.length<=1000):∃l',PD.Lo l a b=some l'/\tv a b l l'/\uK l' a b:=by
 unfold PD.Lo;have w1:i64.wrap (b-a)=b-a:=fm (by omega) (by omega);have w2:i64.wrap (b-a-1)=b-a-1:=fm (by omega) (by omega);have w3:i64.wrap (Int.tdiv (b-a-1) 2)=(b-a-1)/2:=by rw[Int.tdiv_eq_ediv_of_nonneg (by omega),fm (by omega) (by omega)]
 simp only[w1,w2,w3];obtain⟨l1,h1,h2,h3⟩:=ck (f:=PD.CA a b)
  (fun m s=>∃(i:Int) (l1:List T),s=(i,l1)/\m=(i+1).toNat/\ -1<=i/\i<=1000/\tv a b l l1/\HP l1 (i+1) (b-a) a (-1))
  (fun l1=>tv a b l l1/\HP l1 0 (b-a) a (-1)) (by
   rintro m s ⟨i,l1,rfl,rfl,k1,k2,k3,k4⟩;have hl:=k3.len;unfold PD.CA;simp only;by_cases hi:i≥0
   . obtain⟨l2,q1,q2,q3⟩:=U7 (l:=l1) (lo:=i) (hi:=b-a) (f:=a) ha hi (by omega) (by omega) (by omega) (by omega) (fun c c1 c2 c3 c4=>k4 c c1 c2 (by omega) (by omega));rw[if_pos hi,fm (by omega) (by omega),q1];simp only[aa];rw[fm (by omega) (by omega)];refine .inl ⟨_,_,rfl,by omega,i-1,l2,rfl,rfl,by omega,by omega,k3.trans (q2.mono (by omega) (by omega)),?_⟩;rw[show i-1+1=i by omega];exact q3
   . rw[if_neg hi];have:i+1=0:=by omega
     rw[this]at k4;exact .inr ⟨_,rfl,k3,k4⟩) _ _ ⟨(b-a-1)/2,l,rfl,rfl,by omega,by omega,.refl,fun c c1 c2 c3 c4=>by omega⟩
 rw[h1];simp only[aa];obtain⟨l2,h4,h5,h6⟩:=ck (f:=PD.CB a)
  (fun m s=>∃(i:Int) (l2:List T),s=(i,l2)/\m=(i+1).toNat/\ -1<=i/\i<b-a/\tv a b l l2/\HP l2 0 (i+1) a (-1)/\∀p q,a<=p->p<q->q<b->a+i<q->key (cz l2 p)<=key (cz l2 q))
  (fun l2=>tv a b l l2/\uK l2 a b) (by
   rintro m s ⟨i,l2,rfl,rfl,k1,k2,k3,k4,k5⟩;have hl:=k3.len;unfold PD.CB;simp only;by_cases hi:i≥0
   . have w4:i64.wrap (a+i)=a+i:=fm (by omega) (by omega);have w5:i64.wrap (i-1)=i-1:=fm (by omega) (by omega);have e1:idx l2 (a+i)=some (cz l2 (a+i)):=vG (by omega) (by omega);have e2:idx l2 a=some (cz l2 a):=vG (by omega) (by omega);have e3:idx (l2.set a.toNat (cz l2 (a+i))) (a+i)=some _:=vG (by omega) (by rw[bJ];omega);simp only[if_pos hi,w4,w5,e1,e2,e3,aa];have c:=fun(k:Int) (hk:0<=k)=>Gs (l:=l2) (i:=a) (j:=a+i) ⟨by omega,by omega⟩ ⟨by omega,by omega⟩ hk
     obtain⟨l3,q1,q2,q3⟩:=U7 (l:=sz l2 a (a+i)) (lo:=0) (hi:=i) (f:=a) ha (by omega) (by rw[TN];omega) (by rw[TN];omega) (by omega) hi (fun x x1 x2 x3 x4=>by
      rw[c (a+x) (by omega),c (a+(x-1)/2) (by omega),if_neg (by omega),if_neg (by omega),if_neg (by omega),if_neg (by omega)];exact k4 x x1 (by omega) (by omega) (by omega))
     have q1':PD.CY ((l2.set a.toNat (cz l2 (a+i))).set (a+i).toNat (cz l2 a)) 0 i a=some l3:=q1;rw[q1'];have S1:tv a (a+i+1) l2 (sz l2 a (a+i)):=tv.one a (a+i) ⟨by omega,by omega⟩ ⟨by omega,by omega⟩ ha (by omega);have S2:tv a (a+i+1) l2 l3:=S1.trans (q2.mono (by omega) (by omega));refine .inl ⟨_,_,rfl,by omega,i-1,l3,rfl,rfl,by omega,by omega,k3.trans (S2.mono (by omega) (by omega)),?_,fun p q p1 p2 p3 p4=>?_⟩
     . rw[show i-1+1=i by omega];exact q3
     . by_cases e:q=a+i
       . subst e;have hmax:=S2.all (fun x=>key x<=key (cz l2 a)) (fun k r1 r2 r3=>by
          have:=QM k4 (k-a).toNat (k-a) (by omega) (by omega) (by omega)
          rwa[show a+(k-a)=k by omega]at this) p (by omega) p1 (by omega)
         rw[q2.out (k:=a+i) (by omega) (by omega),c (a+i) (by omega)];split
         . rename_i h0;rw[h0];exact hmax
         . rw[if_pos rfl];exact hmax
       . rw[S2.out (k:=q) (by omega) (by omega)];by_cases e2:p<a+i+1
         . exact S2.all (fun x=>key x<=key (cz l2 q)) (fun k r1 r2 r3=>k5 k q r2 (by omega) p3 (by omega)) p (by omega) p1 e2
         . rw[S2.out (k:=p) (by omega) (by omega)];exact k5 p q p1 p2 p3 (by omega)
   . rw[if_neg hi];exact .inr ⟨_,rfl,k3,fun p q p1 p2 p3=>k5 p q p1 p2 p3 (by omega)⟩) _ _ ⟨b-a-1,l1,rfl,rfl,by omega,by omega,h2,by rw[show b-a-1+1=b-a by omega];exact h3,fun p q p1 p2 p3 p4=>by omega⟩
 exact⟨l2,h4,h5,h6⟩
end PD
end Go.Proofs.YtekpafdhgkocaaaGreat
namespace Go.Proofs.YtekpafdhgkocaaaGreat
open IntKind(i64)
open G
namespace PD
variable {T:Type}[PD T]
theorem aah{x m:Int}(h0:0<=m)(h1:m<=1000):0<=cV .u64 x m/\cV .u64 x m<=m:=by
 unfold cV;rw[BitVec.toNat_and];have h2:(BitVec.ofInt IntKind.u64.bits m).toNat=m.toNat:=by
  show(BitVec.ofInt 64 m).toNat=m.toNat;rw[BitVec.toNat_ofInt];congr 1;omega
 rw[h2];have h3:(BitVec.ofInt IntKind.u64.bits x).toNat &&& m.toNat<=m.toNat:=Nat.and_le_right;generalize (BitVec.ofInt IntKind.u64.bits x).toNat &&& m.toNat=k at h3;have h4:IntKind.u64.wrap (k:Int)=(k:Int):=by
  simp only[IntKind.wrap,IntKind.bits,IntKind.signed];simp;omega
 rw[h4];omega
noncomputable def aeW(n:Nat):Bool:=match fG (n:Int)with|some m=>decide (1<=m/\m<=2*(n:Int))|none=>false
theorem adw:((List.range 50).all fun n=>decide (n<8)||aeW n)=true:=by kernel_rfl
theorem aeX{n:Int}(h1:8<=n)(h2:n<50):∃m,fG n=some m/\1<=m/\m<=2*n:=by
 have h:=aR.1 adw n.toNat (List.mem_range.2 (by omega));rw[Bool.or_eq_true,au]at h;have h:=h.resolve_left (by omega);unfold aeW at h;rw[Int.toNat_of_nonneg (by omega)]at h;split at h
 . rename_i m e;have:=aF h;exact⟨m,e,this⟩
 . cases h
variable {l:List T}{a b:Int}
theorem acP(ha:0<=a)(hab:a+8<=b)(hb:b<=(l.length:Int))(hn:l.length<50):∃l',PD.wv l a b=some l'/\tv a b l l':=by
 unfold PD.wv;have w1:i64.wrap (b-a)=b-a:=fm (by omega) (by omega);have w3:i64.wrap (Int.tdiv (b-a) 4)=(b-a)/4:=by rw[Int.tdiv_eq_ediv_of_nonneg (by omega),fm (by omega) (by omega)]
 have w4:i64.wrap ((b-a)/4*2)=(b-a)/4*2:=fm (by omega) (by omega);have w5:i64.wrap (a+(b-a)/4*2)=a+(b-a)/4*2:=fm (by omega) (by omega);have w6:i64.wrap (a+(b-a)/4*2-1)=a+(b-a)/4*2-1:=fm (by omega) (by omega);have w7:i64.wrap (a+(b-a)/4*2+1)=a+(b-a)/4*2+1:=fm (by omega) (by omega);obtain⟨m,hm,m1,m2⟩:=aeX (n:=b-a) (by omega) (by omega);simp only[w1,w3,w4,w5,w6];rw[if_pos (by omega),hm];simp only[aa];exact ck (f:=PD.vM a b m)
  (fun k s=>∃(i:Int) (l1:List T) (r:Int),s=(i,l1,r)/\k=(a+(b-a)/4*2+2-i).toNat/\a<=i/\tv a b l l1)
  (fun l'=>tv a b l l') (by
   rintro k s ⟨i,l1,r,rfl,rfl,h1,h2⟩;have hl:=h2.len;unfold PD.vM;simp only[w1,w3,w4,w5,w7];by_cases hi:i<=a+(b-a)/4*2+1
   . rw[if_pos hi];obtain⟨y,hy⟩:∃y,hZ r=some y:=⟨_,rfl⟩;rw[hy];simp only[aa];have wu:IntKind.u64.wrap (m-1)=m-1:=by simp only[IntKind.wrap,IntKind.bits,IntKind.signed];simp;omega
     rw[wu];obtain⟨q1,q2⟩:=aah (x:=y.1) (m:=m-1) (by omega) (by omega);generalize cV .u64 y.1 (m-1)=z at q1 q2;have wz:i64.wrap z=z:=fm (by omega) (by omega);have wz2:i64.wrap (z-(b-a))=z-(b-a):=fm (by omega) (by omega);rw[wz,wz2];obtain⟨v,hv,v1,v2⟩:∃v,(if z≥b-a then some (z-(b-a))else some z)=some v/\0<=v/\v<b-a:=by
      by_cases h:z≥b-a
      . exact⟨_,if_pos h,by omega,by omega⟩
      . exact⟨_,if_neg h,by omega,by omega⟩
     rw[hv];simp only[aa];have w8:i64.wrap (a+v)=a+v:=fm (by omega) (by omega);have w9:i64.wrap (i+1)=i+1:=fm (by omega) (by omega);have e1:idx l1 (a+v)=some (cz l1 (a+v)):=vG (by omega) (by omega);have e2:idx l1 i=some (cz l1 i):=vG (by omega) (by omega);have e3:idx (l1.set i.toNat (cz l1 (a+v))) (a+v)=some _:=vG (by omega) (by rw[bJ];omega);simp only[w8,w9,e1,e2,e3,aa];exact .inl ⟨_,_,rfl,by omega,i+1,sz l1 i (a+v),y.2,rfl,rfl,by omega,h2.step ⟨by omega,by omega⟩ ⟨by omega,by omega⟩ ⟨by omega,by omega⟩ ⟨by omega,by omega⟩⟩
   . rw[if_neg hi];exact .inr ⟨_,rfl,h2⟩) _ _ ⟨_,l,_,rfl,rfl,by omega,.refl⟩
theorem PC{i j s:Int}(hi:0<=i/\i<(l.length:Int))(hj:0<=j/\j<(l.length:Int)):∃x y s',PD.LX l i j s=some (x,y,s')/\(x=i/\y=j\/x=j/\y=i):=by
 unfold PD.LX;rw[vG hj.1 hj.2,vG hi.1 hi.2];simp only[aa,PD.hc];split
 . exact⟨_,_,_,rfl,.inr ⟨rfl,rfl⟩⟩
 . exact⟨_,_,_,rfl,.inl ⟨rfl,rfl⟩⟩
theorem adm{i j k s:Int}(hi:0<=i/\i<(l.length:Int))(hj:0<=j/\j<(l.length:Int))(hk:0<=k/\k<(l.length:Int)):∃x s',PD.Po l i j k s=some (x,s')/\(x=i\/x=j\/x=k):=by
 unfold PD.Po;obtain⟨x1,y1,s1,e1,h1⟩:=PC (l:=l) (s:=s) hi hj;rw[e1];simp only[aa];obtain⟨x2,y2,s2,e2,h2⟩:=PC (l:=l) (i:=y1) (j:=k) (s:=s1) (by omega) hk;rw[e2];simp only[aa];obtain⟨x3,y3,s3,e3,h3⟩:=PC (l:=l) (i:=x1) (j:=x2) (s:=s2) (by omega) (by omega);rw[e3];exact⟨_,_,rfl,by simp only;omega⟩
theorem adN(ha:0<=a)(hab:a+8<=b)(hb:b<=(l.length:Int))(hn:l.length<50):∃p h,PD.Cq l a b=some (p,h)/\a<=p/\p<b:=by
 unfold PD.Cq;have w1:i64.wrap (b-a)=b-a:=fm (by omega) (by omega);have w3:i64.wrap (Int.tdiv (b-a) 4)=(b-a)/4:=by rw[Int.tdiv_eq_ediv_of_nonneg (by omega),fm (by omega) (by omega)]
 have w4:i64.wrap ((b-a)/4*1)=(b-a)/4*1:=fm (by omega) (by omega);have w5:i64.wrap ((b-a)/4*2)=(b-a)/4*2:=fm (by omega) (by omega);have w6:i64.wrap ((b-a)/4*3)=(b-a)/4*3:=fm (by omega) (by omega);have w7:i64.wrap (a+(b-a)/4*1)=a+(b-a)/4*1:=fm (by omega) (by omega);have w8:i64.wrap (a+(b-a)/4*2)=a+(b-a)/4*2:=fm (by omega) (by omega);have w9:i64.wrap (a+(b-a)/4*3)=a+(b-a)/4*3:=fm (by omega) (by omega);simp only[w1,w3,w4,w5,w6,w7,w8,w9];rw[if_pos (by omega),if_neg (by omega)];simp only[aa];obtain⟨x,s,e,h⟩:=adm (l:=l) (i:=a+(b-a)/4*1) (j:=a+(b-a)/4*2) (k:=a+(b-a)/4*3) (s:=0) (by omega) (by omega) (by omega);rw[e];simp only[aa];have hx:a<=x/\x<b:=by omega
 split
 . exact⟨_,_,rfl,hx⟩
 . split
   . exact⟨_,_,rfl,hx⟩
   . exact⟨_,_,rfl,hx⟩
theorem adR(ha:0<=a)(hb:b<=(l.length:Int))(hn:l.length<50)(hab:a<=b):∃l',PD.xY l a b=some l'/\tv a b l l':=by
 unfold PD.xY;rw[fm (by omega) (by omega)];exact ck (f:=PD.xp)
  (fun k s=>∃(i j:Int) (l1:List T),s=(i,j,l1)/\k=(j-i+1).toNat/\a<=i/\j<b/\tv a b l l1)
  (fun l'=>tv a b l l') (by
   rintro k s ⟨i,j,l1,rfl,rfl,h1,h2,h3⟩;have hl:=h3.len;unfold PD.xp;simp only;by_cases hi:i<j
   . have w8:i64.wrap (j-1)=j-1:=fm (by omega) (by omega);have w9:i64.wrap (i+1)=i+1:=fm (by omega) (by omega);have e1:idx l1 j=some (cz l1 j):=vG (by omega) (by omega);have e2:idx l1 i=some (cz l1 i):=vG (by omega) (by omega);have e3:idx (l1.set i.toNat (cz l1 j)) j=some _:=vG (by omega) (by rw[bJ];omega);simp only[if_pos hi,w8,w9,e1,e2,e3,aa];exact .inl ⟨_,_,rfl,by omega,i+1,j-1,sz l1 i j,rfl,rfl,by omega,by omega,h3.step ⟨by omega,by omega⟩ ⟨by omega,by omega⟩ ⟨by omega,by omega⟩ ⟨by omega,by omega⟩⟩
   . rw[if_neg hi];exact .inr ⟨_,rfl,h3⟩) _ _ ⟨a,b-1,l,rfl,rfl,Int.le_refl _,by omega,.refl⟩
theorem Vh{f:Int->Option (Int⊕Int)}(P:Int->Bool){i j:Int}(hj:j<=1000)(h0:0<=i)(hij:i<=j+1)(hf:∀k,i<=k->k<=j+1->f k=some (if k<=j/\P k=true then .inl (k+1)else .inr k)):
 ∃r,Iter f i=some r/\i<=r/\r<=j+1/\(∀k,i<=k->k<r->P k=true)/\(r<=j->P r=false):=
 ck (f:=f) (fun m s=>m=(j+1-s).toNat/\i<=s/\s<=j+1/\∀k,i<=k->k<s->P k=true) _ (by
  rintro m s ⟨rfl,h1,h2,h3⟩;rw[hf s h1 h2];by_cases h:s<=j/\P s=true
  . rw[if_pos h];exact .inl ⟨_,_,rfl,by omega,rfl,by omega,by omega,fun k k1 k2=>by
     by_cases e:k=s
     . rw[e];exact h.2
     . exact h3 k k1 (by omega)⟩
  . rw[if_neg h];exact .inr ⟨_,rfl,h1,h2,h3,fun hs=>by rw[Bool.eq_false_iff];exact fun hp=>h ⟨hs,hp⟩⟩) _ _ ⟨rfl,Int.le_refl _,hij,fun k k1 k2=>by omega⟩
theorem O6{f:Int->Option (Int⊕Int)}(P:Int->Bool){i j:Int}(h0:0<=i)(hij:i<=j+1)(hf:∀k,i<=k+1->k<=j->f k=some (if i<=k/\P k=true then .inl (k-1)else .inr k)):
 ∃r,Iter f j=some r/\i<=r+1/\r<=j/\(∀k,r<k->k<=j->P k=true)/\(i<=r->P r=false):=
 ck (f:=f) (fun m s=>m=(s+1-i).toNat/\i<=s+1/\s<=j/\∀k,s<k->k<=j->P k=true) _ (by
  rintro m s ⟨rfl,h1,h2,h3⟩;rw[hf s h1 h2];by_cases h:i<=s/\P s=true
  . rw[if_pos h];exact .inl ⟨_,_,rfl,by omega,rfl,by omega,by omega,fun k k1 k2=>by
     by_cases e:k=s
     . rw[e];exact h.2
     . exact h3 k (by omega) k2⟩
  . rw[if_neg h];exact .inr ⟨_,rfl,h1,h2,h3,fun hs=>by rw[Bool.eq_false_iff];exact fun hp=>h ⟨hs,hp⟩⟩) _ _ ⟨rfl,hij,Int.le_refl _,fun k k1 k2=>by omega⟩
theorem ifb{β:Type}(c:Prop)[Decidable c](P:Bool)(x y:β):((if c then some P else some false:Option Bool).bind fun v=>if v=true then some x else some y)=some (if c/\P=true then x else y):=by
 by_cases h:c
 . rw[if_pos h];simp only[aa];by_cases hp:P=true
   . rw[if_pos hp,if_pos ⟨h,hp⟩]
   . rw[if_neg hp,if_neg (fun k=>hp k.2)]
 . rw[if_neg h,if_neg (fun k=>h k.1)];rfl
theorem S5{β:Type}{c:Prop}[Decidable c]{F:Option Bool}(P:Bool)(x y:β)(hF:c->F=some P):((if c then F else some false:Option Bool).bind fun v=>if v=true then some x else some y)=some (if c/\P=true then x else y):=by
 rw[<- ifb c P x y];congr 1;by_cases h:c
 . rw[if_pos h,if_pos h,hF h]
 . rw[if_neg h,if_neg h]
theorem adM(ha:0<=a)(hab:a+1<=b)(hb:b<=(l.length:Int))(hn:l.length<50):∃r,PD.lb l a b=some (r,l)/\(r=true->uK l a b):=by
 unfold PD.lb;rw[fm (by omega) (by omega)];obtain⟨r,e,r1,r2,r3,r4⟩:=Vh (f:=PD.po b (a+1,0,l)) (fun k=>!decide (key (cz l k)<key (cz l (k-1)))) (i:=a+1) (j:=b-1) (by omega) (by omega) (by omega) (fun k k1 k2=>by
  unfold PD.po;simp only;rw[fm (x:=k-1) (by omega) (by omega),fm (x:=k+1) (by omega) (by omega)];refine(S5 (!decide (key (cz l k)<key (cz l (k-1)))) _ _ (fun h=>?_)).trans ?_
  . rw[vG (by omega) (by omega),vG (by omega) (by omega)];simp only[aa,PD.hc,PD.hf,PD.hp]
  . congr 1;by_cases h:k<b
    . simp only[h,show k<=b-1 by omega]
    . simp only[h,show ¬ k<=b-1 by omega])
 have hs:uK l a r:=by
  have key1:∀(n:Nat) (p q:Int),q-p<=n->a<=p->p<q->q<r->key (cz l p)<=key (cz l q):=fun n=>by
   induction n with
   |zero=>intro p q _ _ _ _;omega
   |succ n ih=>
    intro p q h1 h2 h3 h4
    have:=r3 q (by omega) h4
    simp only[Bool.not_eq_true',bh]at this
    by_cases e:p=q-1
    . subst e;omega
    . have:=ih p (q-1) (by omega) h2 (by omega) (by omega)
      omega
  exact fun p q h1 h2 h3=>key1 (q-p).toNat p q (by omega) h1 h2 h3
 by_cases h:r=b
 . refine⟨true,fS ?_,fun _=>h▸hs⟩;unfold PD.pn;simp only;rw[if_pos (by omega),e];simp only[aa];rw[if_pos h]
 . refine⟨false,fS ?_,fun h=>by cases h⟩;unfold PD.pn;simp only;rw[if_pos (by omega),e];simp only[aa];rw[if_neg h,fm (by omega) (by omega),if_pos (by omega)]
structure Pt(a b m:Int)(l:List T):Prop where
 lo:∀k,a<=k->k<m->key (cz l k)<=key (cz l m)
 hi:∀k,m<k->k<b->key (cz l m)<=key (cz l k)
theorem Rp{L:List T}{j:Int}(ha:0<=a)(haj:a<=j)(hjb:j<b)(hb:b<=(L.length:Int))(h1:∀k,a+1<=k->k<j+1->key (cz L k)<=key (cz L a))(h2:∀k,j<k->k<b->key (cz L a)<=key (cz L k)):Pt a b j (sz L j a):=by
 have c:=fun(k:Int) (hk:0<=k)=>Gs (l:=L) (i:=j) (j:=a) ⟨by omega,by omega⟩ ⟨by omega,by omega⟩ hk
 refine⟨fun k k1 k2=>?_,fun k k1 k2=>?_⟩
 . rw[c k (by omega),c j (by omega),if_neg (by omega),if_pos rfl];split
   . exact h1 j (by omega) (by omega)
   . exact h1 k (by omega) (by omega)
 . have cj:cz (sz L j a) j=cz L a:=by rw[c j (by omega),if_pos rfl]
   rw[cj,c k (by omega),if_neg (by omega),if_neg (by omega)];exact h2 k k1 k2
theorem abn{p:Int}(ha:0<=a)(hap:a<=p)(hpb:p<b)(hb:b<=(l.length:Int))(hn:l.length<50):
 ∃m fl l',PD.partition l a b p=some (m,fl,l')/\tv a b l l'/\a<=m/\m<b/\Pt a b m l':=by
 unfold PD.partition
 have w1:i64.wrap (a+1)=a+1:=fm (by omega) (by omega)
 have w2:i64.wrap (b-1)=b-1:=fm (by omega) (by omega)
 have e1:idx l p=some (cz l p):=vG (by omega) (by omega)
 have e2:idx l a=some (cz l a):=vG (by omega) (by omega)
 have e3:idx (l.set a.toNat (cz l p)) p=some _:=vG (by omega) (by rw[bJ];omega)
 simp only[w1,w2,e1,e2,e3,aa]
 have S0:tv a b l (sz l a p):=tv.one a p ⟨by omega,by omega⟩ ⟨by omega,by omega⟩ ha hb
 have hL:(l.set a.toNat (cz l p)).set p.toNat (cz l a)=sz l a p:=rfl
 rw[hL]
 have len0:=S0.len
 obtain⟨i,ei,i1,i2,i3,i4⟩:=Vh (f:=PD.Br l a b p (cz l p) (cz l a)) (fun k=>decide (key (cz (sz l a p) k)<key (cz (sz l a p) a))) (i:=a+1) (j:=b-1) (by omega) (by omega) (by omega) (fun k k1 k2=>by
  unfold PD.Br;rw[hL,w2,fm (x:=k+1) (by omega) (by omega)];exact S5 (decide (key (cz (sz l a p) k)<key (cz (sz l a p) a))) _ _ (fun h=>by
   rw[vG (by omega) (by omega),vG (by omega) (by omega)];simp only[aa,PD.hc,PD.hf,PD.hp]))
 rw[ei]
 simp only[aa]
 obtain⟨j,ej,j1,j2,j3,j4⟩:=O6 (f:=PD.Bs l a p (cz l p) (cz l a) i) (fun k=>!decide (key (cz (sz l a p) k)<key (cz (sz l a p) a))) (i:=i) (j:=b-1) (by omega) (by omega) (fun k k1 k2=>by
  unfold PD.Bs;rw[hL,fm (by omega) (by omega)];exact S5 (!decide (key (cz (sz l a p) k)<key (cz (sz l a p) a))) _ _ (fun h=>by
   rw[vG (by omega) (by omega),vG (by omega) (by omega)];simp only[aa,PD.hc,PD.hf,PD.hp]))
 rw[ej]
 simp only[aa]
 have up0:∀k,a+1<=k->k<i->key (cz (sz l a p) k)<=key (cz (sz l a p) a):=fun k k1 k2=>by
  have:=aF (i3 k k1 k2);omega
 have dn0:∀k,j<k->k<b->key (cz (sz l a p) a)<=key (cz (sz l a p) k):=fun k k1 k2=>by
  have:=j3 k k1 (by omega);simp only[Bool.not_eq_true',bh]at this;omega
 generalize sz l a p=L at*
 by_cases hij:i>j
 . rw[if_pos hij]
   have e4:idx L a=some (cz L a):=vG (by omega) (by omega)
   have e5:idx L j=some (cz L j):=vG (by omega) (by omega)
   have e6:idx (L.set j.toNat (cz L a)) a=some _:=vG (by omega) (by rw[bJ];omega)
   simp only[e4,e5,e6,aa]
   exact⟨j,true,sz L j a,rfl,S0.trans (tv.one j a ⟨by omega,by omega⟩ ⟨by omega,by omega⟩ ha (by omega)),by omega,by omega,Rp ha (by omega) (by omega) (by omega) (fun k k1 k2=>up0 k k1 (by omega)) dn0⟩
 . rw[if_neg hij]
   have hne:i≠j:=fun e=>by
    have h1:=i4 (by omega);have h2:=j4 (by omega);rw[e]at h1;simp only[h1]at h2;cases h2
   have e4:idx L j=some (cz L j):=vG (by omega) (by omega)
   have e5:idx L i=some (cz L i):=vG (by omega) (by omega)
   have e6:idx (L.set i.toNat (cz L j)) j=some _:=vG (by omega) (by rw[bJ];omega)
   have w3:i64.wrap (i+1)=i+1:=fm (by omega) (by omega)
   have w4:i64.wrap (j-1)=j-1:=fm (by omega) (by omega)
   simp only[e4,e5,e6,w3,w4,aa]
   have hL2:(L.set i.toNat (cz L j)).set j.toNat (cz L i)=sz L i j:=rfl
   rw[hL2]
   have ai:=of_decide_eq_false (i4 (by omega))
   have aj:=j4 (by omega)
   simp only[Bool.not_eq_false',au]at aj
   have step:∀{L:List T} {i j:Int},L.length=l.length->a+1<=i->i<j->j<b->¬ key (cz L i)<key (cz L a)->key (cz L j)<key (cz L a)->(∀k,a+1<=k->k<i->key (cz L k)<=key (cz L a))->(∀k,j<k->k<b->key (cz L a)<=key (cz L k))->
    (∀k,a+1<=k->k<i+1->key (cz (sz L i j) k)<=key (cz (sz L i j) a))/\(∀k,j-1<k->k<b->key (cz (sz L i j) a)<=key (cz (sz L i j) k)):=fun{L i j} q0 q1 q2 q3 q4 q5 q6 q7=>by
    have c:=fun(k:Int) (hk:0<=k)=>Gs (l:=L) (i:=i) (j:=j) ⟨by omega,by omega⟩ ⟨by omega,by omega⟩ hk
    have ca:=c a ha
    rw[if_neg (by omega),if_neg (by omega)]at ca
    rw[ca]
    refine⟨fun k k1 k2=>?_,fun k k1 k2=>?_⟩
    . rw[c k (by omega)]
      split
      . omega
      . rw[if_neg (by omega)];exact q6 k k1 (by omega)
    . rw[c k (by omega)]
      rw[if_neg (by omega)]
      split
      . omega
      . exact q7 k (by omega) k2
   obtain⟨r,er,r1,r2,r3,r4,r5⟩:=ck (f:=PD.Bt a)
    (fun m s=>∃(i j:Int) (L:List T),s=(i,j,L)/\m=(j+1-i).toNat/\a+1<=i/\j<b/\i<=j+1/\tv a b l L/\(∀k,a+1<=k->k<i->key (cz L k)<=key (cz L a))/\(∀k,j<k->k<b->key (cz L a)<=key (cz L k)))
    (fun r=>tv a b l r.2/\a<=r.1/\r.1<b/\(∀k,a+1<=k->k<r.1+1->key (cz r.2 k)<=key (cz r.2 a))/\(∀k,r.1<k->k<b->key (cz r.2 a)<=key (cz r.2 k))) (by
     rintro m s ⟨i,j,L,rfl,rfl,s1,s2,s3,s4,s5,s6⟩;have hl:=s4.len;unfold PD.Bt;simp only;obtain⟨i',ei,i1,i2,i3,i4⟩:=Vh (f:=PD.Bu a (i,j,L)) (fun k=>decide (key (cz L k)<key (cz L a))) (i:=i) (j:=j) (by omega) (by omega) (by omega) (fun k k1 k2=>by
      unfold PD.Bu;simp only;rw[fm (by omega) (by omega)];exact S5 (decide (key (cz L k)<key (cz L a))) _ _ (fun h=>by
       rw[vG (by omega) (by omega),vG (by omega) (by omega)];simp only[aa,PD.hc,PD.hf,PD.hp]))
     rw[ei];simp only[aa];obtain⟨j',ej,j1,j2,j3,j4⟩:=O6 (f:=PD.Bv a (i,j,L) i') (fun k=>!decide (key (cz L k)<key (cz L a))) (i:=i') (j:=j) (by omega) (by omega) (fun k k1 k2=>by
      unfold PD.Bv;simp only;rw[fm (by omega) (by omega)];exact S5 (!decide (key (cz L k)<key (cz L a))) _ _ (fun h=>by
       rw[vG (by omega) (by omega),vG (by omega) (by omega)];simp only[aa,PD.hc,PD.hf,PD.hp]))
     rw[ej];simp only[aa];have up1:∀k,a+1<=k->k<i'->key (cz L k)<=key (cz L a):=fun k k1 k2=>by
      by_cases h:k<i
      . exact s5 k k1 h
      . have:=aF (i3 k (by omega) k2);omega
     have dn1:∀k,j'<k->k<b->key (cz L a)<=key (cz L k):=fun k k1 k2=>by
      by_cases h:j<k
      . exact s6 k h k2
      . have:=j3 k k1 (by omega);simp only[Bool.not_eq_true',bh]at this;omega
     by_cases hij:i'>j'
     . rw[if_pos hij];exact .inr ⟨_,rfl,s4,by simp only;omega,by simp only;omega,fun k k1 k2=>up1 k k1 (by simp only at k2;omega),dn1⟩
     . rw[if_neg hij];have ai:=of_decide_eq_false (i4 (by omega));have aj:=j4 (by omega);simp only[Bool.not_eq_false',au]at aj;have hne:i'≠j':=fun e=>by subst e;exact ai aj
       have e4:idx L j'=some (cz L j'):=vG (by omega) (by omega);have e5:idx L i'=some (cz L i'):=vG (by omega) (by omega);have e6:idx (L.set i'.toNat (cz L j')) j'=some _:=vG (by omega) (by rw[bJ];omega);have w3:i64.wrap (i'+1)=i'+1:=fm (by omega) (by omega);have w4:i64.wrap (j'-1)=j'-1:=fm (by omega) (by omega);simp only[e4,e5,e6,w3,w4,aa];obtain⟨t1,t2⟩:=step hl (by omega) (by omega) (by omega) ai aj up1 dn1;exact .inl ⟨_,_,rfl,by omega,i'+1,j'-1,sz L i' j',rfl,rfl,by omega,by omega,by omega,s4.step ⟨by omega,by omega⟩ ⟨by omega,by omega⟩ ⟨by omega,by omega⟩ ⟨by omega,by omega⟩,t1,t2⟩) _ _ (by
     obtain⟨t1,t2⟩:=step (L:=L) (i:=i) (j:=j) (by omega) (by omega) (by omega) (by omega) ai aj up0 dn0;exact⟨i+1,j-1,sz L i j,rfl,rfl,by omega,by omega,by omega,S0.step ⟨by omega,by omega⟩ ⟨by omega,by omega⟩ ⟨by omega,by omega⟩ ⟨by omega,by omega⟩,t1,t2⟩)
   rw[er]
   obtain⟨j2,L2⟩:=r
   simp only at r1 r2 r3 r4 r5
   have hl2:=r1.len
   have e4:idx L2 a=some (cz L2 a):=vG (by omega) (by omega)
   have e5:idx L2 j2=some (cz L2 j2):=vG (by omega) (by omega)
   have e6:idx (L2.set j2.toNat (cz L2 a)) a=some _:=vG (by omega) (by rw[bJ];omega)
   simp only[e4,e5,e6,aa]
   exact⟨j2,false,sz L2 j2 a,rfl,r1.step ⟨by omega,by omega⟩ ⟨by omega,by omega⟩ ⟨by omega,by omega⟩ ⟨by omega,by omega⟩,r2,r3,Rp ha (by omega) (by omega) (by omega) r4 r5⟩
theorem adJ{p:Int}(ha:0<=a)(hap:a<=p)(hpb:p<b)(hb:b<=(l.length:Int))(hn:l.length<50):
 ∃m l',PD.yJ l a b p=some (m,l')/\tv a b l l'/\a<m/\m<=b/\∀k,a<=k->k<m->key (cz l' k)<=key (cz l p):=by
 unfold PD.yJ
 have w1:i64.wrap (a+1)=a+1:=fm (by omega) (by omega)
 have w2:i64.wrap (b-1)=b-1:=fm (by omega) (by omega)
 have e1:idx l p=some (cz l p):=vG (by omega) (by omega)
 have e2:idx l a=some (cz l a):=vG (by omega) (by omega)
 have e3:idx (l.set a.toNat (cz l p)) p=some _:=vG (by omega) (by rw[bJ];omega)
 simp only[w1,w2,e1,e2,e3,aa]
 have S0:tv a b l (sz l a p):=tv.one a p ⟨by omega,by omega⟩ ⟨by omega,by omega⟩ ha hb
 have hpv:cz (sz l a p) a=cz l p:=by rw[Gs ⟨by omega,by omega⟩ ⟨by omega,by omega⟩ ha,if_pos rfl]
 obtain⟨r,er,r1,r2,r3,r4⟩:=ck (f:=PD.vi a)
  (fun m s=>∃(i j:Int) (L:List T),s=(i,j,L)/\m=(j+1-i).toNat/\a+1<=i/\j<b/\i<=j+1/\tv a b l L/\cz L a=cz l p/\(∀k,a+1<=k->k<i->key (cz L k)<=key (cz l p)))
  (fun r=>tv a b l r.2/\a<r.1/\r.1<=b/\∀k,a<=k->k<r.1->key (cz r.2 k)<=key (cz l p)) (by
   rintro m s ⟨i,j,L,rfl,rfl,s1,s2,s3,s4,s5,s6⟩;have hl:=s4.len;unfold PD.vi;simp only;obtain⟨i',ei,i1,i2,i3,i4⟩:=Vh (f:=PD.vj a (i,j,L)) (fun k=>!decide (key (cz L a)<key (cz L k))) (i:=i) (j:=j) (by omega) (by omega) (by omega) (fun k k1 k2=>by
    unfold PD.vj;simp only;rw[fm (by omega) (by omega)];exact S5 (!decide (key (cz L a)<key (cz L k))) _ _ (fun h=>by
     rw[vG (by omega) (by omega),vG (by omega) (by omega)];simp only[aa,PD.hc,PD.hf,PD.hp]))
   rw[ei];simp only[aa];obtain⟨j',ej,j1,j2,j3,j4⟩:=O6 (f:=PD.vk a (i,j,L) i') (fun k=>decide (key (cz L a)<key (cz L k))) (i:=i') (j:=j) (by omega) (by omega) (fun k k1 k2=>by
    unfold PD.vk;simp only;rw[fm (by omega) (by omega)];exact S5 (decide (key (cz L a)<key (cz L k))) _ _ (fun h=>by
     rw[vG (by omega) (by omega),vG (by omega) (by omega)];simp only[aa,PD.hc,PD.hf,PD.hp]))
   rw[ej];simp only[aa];have up1:∀k,a+1<=k->k<i'->key (cz L k)<=key (cz l p):=fun k k1 k2=>by
    by_cases h:k<i
    . exact s6 k k1 h
    . have:=i3 k (by omega) k2;simp only[Bool.not_eq_true',bh,s5]at this;omega
   by_cases hij:i'>j'
   . rw[if_pos hij];refine .inr ⟨_,rfl,s4,by simp only;omega,by simp only;omega,fun k k1 k2=>?_⟩;by_cases e:k=a
     . subst e;simp only;rw[s5];exact Int.le_refl _
     . exact up1 k (by omega) k2
   . rw[if_neg hij];have ai:=i4 (by omega);simp only[Bool.not_eq_false',au]at ai;have aj:=of_decide_eq_false (j4 (by omega));have hne:i'≠j':=fun e=>by subst e;exact aj ai
     have e4:idx L j'=some (cz L j'):=vG (by omega) (by omega);have e5:idx L i'=some (cz L i'):=vG (by omega) (by omega);have e6:idx (L.set i'.toNat (cz L j')) j'=some _:=vG (by omega) (by rw[bJ];omega);have w3:i64.wrap (i'+1)=i'+1:=fm (by omega) (by omega);have w4:i64.wrap (j'-1)=j'-1:=fm (by omega) (by omega);simp only[e4,e5,e6,w3,w4,aa];have c:=fun(k:Int) (hk:0<=k)=>Gs (l:=L) (i:=i') (j:=j') ⟨by omega,by omega⟩ ⟨by omega,by omega⟩ hk
     refine .inl ⟨_,_,rfl,by omega,i'+1,j'-1,sz L i' j',rfl,rfl,by omega,by omega,by omega,s4.step ⟨by omega,by omega⟩ ⟨by omega,by omega⟩ ⟨by omega,by omega⟩ ⟨by omega,by omega⟩,?_,fun k k1 k2=>?_⟩
     . rw[c a ha,if_neg (by omega),if_neg (by omega),s5]
     . rw[c k (by omega)];split
       . rw[s5]at aj;omega
       . rw[if_neg (by omega)];exact up1 k k1 (by omega)) _ _ ⟨a+1,b-1,sz l a p,rfl,rfl,by omega,by omega,by omega,S0,hpv,fun k k1 k2=>by omega⟩
 exact⟨r.1,r.2,er,r1,r2,r3,r4⟩
end PD
end Go.Proofs.YtekpafdhgkocaaaGreat
namespace Go.Proofs.YtekpafdhgkocaaaGreat
open IntKind(i64)
open G
namespace PD
variable {T:Type}[PD T]
variable {l:List T}{a b A B:Int}
def PR(A B a b:Int)(l:List T):Prop:=∀p q,A<=p->p<q->q<B->(p<a\/b<=q)->key (cz l p)<=key (cz l q)
theorem PR.qu{l l':List T}(hA:0<=A)(hAa:A<=a)(hbB:b<=B)(h:PR A B a b l)(s:tv a b l l'):PR A B a b l':=by
 intro p q h1 h2 h3 h4;by_cases hp:p<a
 . rw[s.out (k:=p) (by omega) (.inl hp)];by_cases hq:a<=q/\q<b
   . exact s.all (fun x=>key (cz l p)<=key x) (fun k k0 k1 k2=>h p k h1 (by omega) (by omega) (.inl hp)) q (by omega) hq.1 hq.2
   . rw[s.out (k:=q) (by omega) (by omega)];exact h p q h1 h2 h3 h4
 . have hq:b<=q:=h4.resolve_left hp;rw[s.out (k:=q) (by omega) (.inr hq)];by_cases hp2:p<b
   . exact s.all (fun x=>key x<=key (cz l q)) (fun k k0 k1 k2=>h k q (by omega) (by omega) h3 (.inr hq)) p (by omega) (by omega) hp2
   . rw[s.out (k:=p) (by omega) (by omega)];exact h p q h1 h2 h3 h4
theorem PR.fin{l:List T}(h:PR A B a b l)(s:uK l a b):uK l A B:=fun p q h1 h2 h3=>by
 by_cases h4:p<a\/b<=q
 . exact h p q h1 h2 h3 h4
 . exact s p q (by omega) h2 (by omega)
def ZZ(A B:Int)(l:List T):Prop:=0<A->∀k,A<=k->k<B->key (cz l (A-1))<=key (cz l k)
theorem ZZ.qu{l l':List T}(h:ZZ A B l)(s:tv A B l l'):ZZ A B l':=fun h0 k h1 h2=>by
 rw[s.out (k:=A-1) (by omega) (by omega)];exact s.all (fun x=>key (cz l (A-1))<=key x) (fun k k0 k1 k2=>h h0 k k1 k2) k (by omega) h1 h2
theorem ZZ.sub{l:List T}(h:ZZ A B l)(hA:0<=A)(hAa:A<=a)(hbB:b<=B)(hp:PR A B a b l):ZZ a b l:=fun h0 k h1 h2=>by
 by_cases e:a=A
 . subst e;exact h h0 k h1 (by omega)
 . exact hp (a-1) k (by omega) (by omega) (by omega) (by omega)
abbrev St(T:Type):=Int×Int×Int×Bool×Bool×(List T)
abbrev Ar(T:Type):=(List T)×Int×Int×Int
structure Inv(A B:Int)(l:List T)(s:(St T)):Prop where
 a0:A<=s.1
 ab:s.1<=s.2.1
 bB:s.2.1<=B
 sw:tv A B l s.2.2.2.2.2
 pr:PR A B s.1 s.2.1 s.2.2.2.2.2
structure Arg(y:(Ar T)):Prop where
 a0:0<=y.2.1
 ab:y.2.1<=y.2.2.1
 bl:y.2.2.1<=(y.1.length:Int)
 n:y.1.length<50
 pre:ZZ y.2.1 y.2.2.1 y.1
def sT(y:(Ar T))(r:List T):Prop:=tv y.2.1 y.2.2.1 y.1 r/\uK r y.2.1 y.2.2.1
theorem round(hA:0<=A)(hB:B<=(l.length:Int))(hn:l.length<50)(hp:ZZ A B l)(ρ:(Ar T)->List T)(hρ:∀y,Arg y->y.2.2.1-y.2.1<B-A->sT y (ρ y)){s:(St T)}(h:Inv A B l s):
 (∃s',(∀fx:(Ar T)->Option (List T),(∀y,Arg y->y.2.2.1-y.2.1<B-A->fx y=some (ρ y))->PD.oc fx s=some (.inl s'))/\Inv A B l s'/\s'.2.1-s'.1<s.2.1-s.1)\/
 (∃r,(∀fx:(Ar T)->Option (List T),PD.oc fx s=some (.inr r))/\tv A B l r/\uK r A B):=by
 obtain⟨a,b,lim,wb,wp,L⟩:=s
 obtain⟨h1,h2,h3,h4,h5⟩:=h
 simp only at h1 h2 h3 h4 h5
 have hl:=h4.len
 have w1:i64.wrap (b-a)=b-a:=fm (by omega) (by omega)
 by_cases hs:b-a<=12
 . obtain⟨l',e,q1,q2⟩:=ada (l:=L) (a:=a) (b:=b) (by omega) h2 (by omega) (by omega)
   refine .inr ⟨l',fun fx=>?_,h4.trans (q1.mono h1 h3),(h5.qu hA h1 h3 q1).fin q2⟩
   unfold PD.oc
   simp only[w1,if_pos hs,e,aa]
 by_cases hm:lim=0
 . obtain⟨l',e,q1,q2⟩:=aaH (l:=L) (a:=a) (b:=b) (by omega) (by omega) (by omega) (by omega)
   refine .inr ⟨l',fun fx=>?_,h4.trans (q1.mono h1 h3),(h5.qu hA h1 h3 q1).fin q2⟩
   unfold PD.oc
   simp only[w1,if_neg hs,if_pos hm,e,aa]
 obtain⟨lim',L1,e4,s1⟩:∃lim' L1,(if wb=false then(PD.wv L a b).bind fun y5=>some ((i64.wrap (lim-(1:Int))),y5)else some (lim,L))=some (lim',L1)/\tv a b L L1:=by
  by_cases h:wb=false
  . obtain⟨l',e,q⟩:=acP (l:=L) (a:=a) (b:=b) (by omega) (by omega) (by omega) (by omega);rw[if_pos h,e];exact⟨_,_,rfl,q⟩
  . rw[if_neg h];exact⟨_,_,rfl,.refl⟩
 have hl1:=s1.len
 obtain⟨p,hint,e6,p1,p2⟩:=adN (l:=L1) (a:=a) (b:=b) (by omega) (by omega) (by omega) (by omega)
 obtain⟨p',hint',L2,e7,p1',p2',s2⟩:∃p' hint' L2,(if hint=(2:Int)then(PD.xY L1 a b).bind fun y8=>some ((i64.wrap ((i64.wrap (b-(1:Int)))-(i64.wrap (p-a)))),(1:Int),y8)else some (p,hint,L1))=some (p',hint',L2)/\a<=p'/\p'<b/\tv a b L1 L2:=by
  by_cases h:hint=2
  . obtain⟨l',e,q⟩:=adR (l:=L1) (a:=a) (b:=b) (by omega) (by omega) (by omega) (by omega);have w2:i64.wrap (b-1)=b-1:=fm (by omega) (by omega);have w3:i64.wrap (p-a)=p-a:=fm (by omega) (by omega);have w4:i64.wrap (b-1-(p-a))=b-1-(p-a):=fm (by omega) (by omega);rw[if_pos h,e,w2,w3,w4];exact⟨_,_,_,rfl,by omega,by omega,q⟩
  . rw[if_neg h];exact⟨_,_,_,rfl,p1,p2,.refl⟩
 have hl2:=s2.len
 have S2:=s1.trans s2
 have hpr2:=h5.qu hA h1 h3 S2
 obtain⟨b9,e9⟩:∃b9,(if wb=true then if wp=true then some (hint' == (1:Int))else some false else some false)=some b9:=by
  split
  . split
    . exact⟨_,rfl⟩
    . exact⟨_,rfl⟩
  . exact⟨_,rfl⟩
 have hv:((if b9=true then(PD.lb L2 a b).bind fun y12=>if y12.1=true then some (.inr (.inr y12.2))else some (.inl y12.2)else some (.inl L2)):Option ((List T)⊕((St T)⊕(List T))))=some (.inl L2)\/
  (((if b9=true then(PD.lb L2 a b).bind fun y12=>if y12.1=true then some (.inr (.inr y12.2))else some (.inl y12.2)else some (.inl L2)):Option ((List T)⊕((St T)⊕(List T))))=some (.inr (.inr L2))/\uK L2 a b):=by
  by_cases h:b9=true
  . obtain⟨r,e,hr⟩:=adM (l:=L2) (a:=a) (b:=b) (by omega) (by omega) (by omega) (by omega)
    rw[if_pos h,e]
    simp only[aa]
    by_cases hr2:r=true
    . rw[if_pos hr2];exact .inr ⟨rfl,hr hr2⟩
    . rw[if_neg hr2];exact .inl rfl
  . rw[if_neg h];exact .inl rfl
 rcases hv with e10|⟨e10,hsrt⟩
 . obtain⟨b13,e13,h13⟩:∃b13,(if a>(0:Int)then(idx L2 (i64.wrap (a-(1:Int)))).bind fun x14=>(idx L2 p').bind fun x15=>(PD.c x14 x15).bind fun y16=>some (!(PD.f y16))else some false)=some b13/\(b13=true->0<a/\¬ key (cz L2 (a-1))<key (cz L2 p')):=by
    by_cases h:a>0
    . rw[if_pos h,fm (by omega) (by omega),vG (by omega) (by omega),vG (by omega) (by omega)];simp only[aa,PD.hc,PD.hf,PD.hp];exact⟨_,rfl,fun hb=>⟨h,by simpa using hb⟩⟩
    . rw[if_neg h];exact⟨_,rfl,fun h=>by cases h⟩
   have hpre2:ZZ a b L2:=(hp.qu (h4.trans (S2.mono h1 h3))).sub hA h1 h3 hpr2
   by_cases hb13:b13=true
   . obtain⟨k0,k1⟩:=h13 hb13
     obtain⟨m,L3,e14,s3,m1,m2,m3⟩:=adJ (l:=L2) (a:=a) (b:=b) (p:=p') (by omega) p1' p2' (by omega) (by omega)
     have hpr3:=hpr2.qu hA h1 h3 s3
     have hmin:=s3.all (fun x=>key (cz L2 p')<=key x) (fun k j0 j1 j2=>by have:=hpre2 k0 k j1 j2;omega)
     refine .inl ⟨(m,b,lim',wb,wp,L3),fun fx _=>?_,⟨by simp only;omega,m2,h3,h4.trans ((S2.trans s3).mono h1 h3),fun u v u1 u2 u3 u4=>?_⟩,by simp only;omega⟩
     . unfold PD.oc
       simp only[w1,if_neg hs,if_neg hm,e4,e6,e7,e9,aa,uq]
       rw[e10]
       simp only[aa]
       rw[e13]
       simp only[aa]
       rw[if_pos hb13,e14]
       rfl
     . simp only at u4 ⊢
       by_cases u5:u<a\/b<=v
       . exact hpr3 u v u1 u2 u3 u5
       . have q1:=m3 u (by omega) (by omega)
         have q2:=hmin v (by omega) (by omega) (by omega)
         omega
   . obtain⟨m,fl,L3,e14,s3,m1,m2,m3⟩:=abn (l:=L2) (a:=a) (b:=b) (p:=p') (by omega) p1' p2' (by omega) (by omega)
     have hpr3:=hpr2.qu hA h1 h3 s3
     have hpre3:=hpre2.qu s3
     have hl3:=s3.len
     have S3:=h4.trans ((S2.trans s3).mono h1 h3)
     by_cases hside:i64.wrap (m-a)<i64.wrap (b-m)
     . have hy:Arg (L3,a,m,lim'):=⟨by simp only;omega,m1,by simp only;omega,by simp only;omega,fun j0 k j1 j2=>hpre3 j0 k j1 (by simp only at j2;omega)⟩
       obtain⟨s4,srt4⟩:=hρ _ hy (by simp only;omega)
       simp only at s4 srt4
       generalize hr:ρ (L3,a,m,lim')=L4 at s4 srt4
       refine .inl ⟨(m+1,b,lim',decide (i64.wrap (m-a)≥i64.wrap (Int.tdiv (b-a) 8)),fl,L4),fun fx hfx=>?_,⟨by simp only;omega,by simp only;omega,h3,S3.trans (s4.mono (by omega) (by omega)),fun u v u1 u2 u3 u4=>?_⟩,by simp only;omega⟩
       . unfold PD.oc
         simp only[w1,if_neg hs,if_neg hm,e4,e6,e7,e9,aa,uq]
         rw[e10]
         simp only[aa]
         rw[e13]
         simp only[aa]
         rw[if_neg hb13,e14]
         simp only[aa]
         rw[if_pos hside,hfx _ hy (by simp only;omega),hr,fm (x:=m+1) (by omega) (by omega)]
         rfl
       . simp only at u4 ⊢
         by_cases u5:u<a\/b<=v
         . exact(hpr3.qu hA h1 h3 (s4.mono (Int.le_refl _) (by omega))) u v u1 u2 u3 u5
         . have hum:=s4.all (fun x=>key x<=key (cz L3 m)) (fun k j0 j1 j2=>m3.lo k j1 j2)
           have hem:cz L4 m=cz L3 m:=s4.out (by omega) (by omega)
           by_cases u6:v<m
           . exact srt4 u v (by omega) u2 u6
           . by_cases u7:v=m
             . subst u7;rw[hem];exact hum u (by omega) (by omega) (by omega)
             . rw[s4.out (k:=v) (by omega) (by omega)]
               have q1:=m3.hi v (by omega) (by omega)
               by_cases u8:u=m
               . subst u8;rw[hem];exact q1
               . have:=hum u (by omega) (by omega) (by omega);omega
     . have hy:Arg (L3,m+1,b,lim'):=⟨by simp only;omega,by simp only;omega,by simp only;omega,by simp only;omega,fun j0 k j1 j2=>by
        simp only at j1 j2 ⊢;rw[show m+1-1=m by omega];exact m3.hi k (by omega) j2⟩
       obtain⟨s4,srt4⟩:=hρ _ hy (by simp only;omega)
       simp only at s4 srt4
       generalize hr:ρ (L3,m+1,b,lim')=L4 at s4 srt4
       refine .inl ⟨(a,m,lim',decide (i64.wrap (b-m)≥i64.wrap (Int.tdiv (b-a) 8)),fl,L4),fun fx hfx=>?_,⟨h1,m1,by simp only;omega,S3.trans (s4.mono (by omega) (by omega)),fun u v u1 u2 u3 u4=>?_⟩,by simp only;omega⟩
       . unfold PD.oc
         simp only[w1,if_neg hs,if_neg hm,e4,e6,e7,e9,aa,uq]
         rw[e10]
         simp only[aa]
         rw[e13]
         simp only[aa]
         rw[if_neg hb13,e14]
         simp only[aa]
         rw[if_neg hside,fm (x:=m+1) (by omega) (by omega),hfx _ hy (by simp only;omega),hr]
         rfl
       . simp only at u4 ⊢
         by_cases u5:u<a\/b<=v
         . exact(hpr3.qu hA h1 h3 (s4.mono (by omega) (Int.le_refl _))) u v u1 u2 u3 u5
         . have hum:=s4.all (fun x=>key (cz L3 m)<=key x) (fun k j0 j1 j2=>m3.hi k (by omega) j2)
           have hem:cz L4 m=cz L3 m:=s4.out (by omega) (by omega)
           have hvm:m<=v:=by omega
           by_cases u6:m<u
           . exact srt4 u v (by omega) u2 (by omega)
           . by_cases u7:u=m
             . subst u7;rw[hem];exact hum v (by omega) (by omega) (by omega)
             . rw[s4.out (k:=u) (by omega) (by omega)]
               have q1:=m3.lo u (by omega) (by omega)
               by_cases u8:v=m
               . subst u8;rw[hem];exact q1
               . have:=hum v (by omega) (by omega) (by omega);omega
 . refine .inr ⟨L2,fun fx=>?_,h4.trans (S2.mono h1 h3),hpr2.fin hsrt⟩
   unfold PD.oc
   simp only[w1,if_neg hs,if_neg hm,e4,e6,e7,e9,aa,uq]
   rw[e10]
   rfl
theorem loop(hA:0<=A)(hB:B<=(l.length:Int))(hn:l.length<50)(hp:ZZ A B l)(ρ:(Ar T)->List T)(hρ:∀y,Arg y->y.2.2.1-y.2.1<B-A->sT y (ρ y)):∀(n:Nat) (s:(St T)),s.2.1-s.1<=n->Inv A B l s->
 ∃r,(∀fx:(Ar T)->Option (List T),(∀y,Arg y->y.2.2.1-y.2.1<B-A->fx y=some (ρ y))->Iter (PD.oc fx) s=some r)/\tv A B l r/\uK r A B:=by
 intro n
 induction n with
 |zero=>
  intro s hs h
  rcases round hA hB hn hp ρ hρ h with⟨s',e,h',hlt⟩|⟨r,e,h1,h2⟩
  . have:=h'.ab;omega
  . exact⟨r,fun fx _=>fS (e fx),h1,h2⟩
 |succ n ih=>
  intro s hs h
  rcases round hA hB hn hp ρ hρ h with⟨s',e,h',hlt⟩|⟨r,e,h1,h2⟩
  . obtain⟨r,e2,h1,h2⟩:=ih s' (by omega) h'
    exact⟨r,fun fx hfx=>by rw[jB (e fx hfx)];exact e2 fx hfx,h1,h2⟩
  . exact⟨r,fun fx _=>fS (e fx),h1,h2⟩
theorem adL{y:(Ar T)}(h:Arg y):∃r,PD.Ki y.1 y.2.1 y.2.2.1 y.2.2.2=some r/\sT y r:=by
 unfold PD.Ki;refine M7 (F:=PD.N2) (fun k y=>Arg y/\k=(y.2.2.1-y.2.1).toNat) sT (fun k y hy f g hfg=>?_) (k:=(y.2.2.1-y.2.1).toNat) ⟨h,rfl⟩;obtain⟨hy,rfl⟩:=hy;have q0:=hy.a0;have q1:=hy.ab;have hag:∀z:(Ar T),Arg z->z.2.2.1-z.2.1<y.2.2.1-y.2.1->f z=some ((f z).getD [])/\g z=some ((f z).getD [])/\sT z ((f z).getD []):=fun z hz hlt=>by
  have:=hz.ab;obtain⟨r,e1,e2,e3⟩:=hfg (z.2.2.1-z.2.1).toNat z (by omega) ⟨hz,rfl⟩;rw[e1,e2];exact⟨rfl,rfl,e3⟩
 obtain⟨r,e,s1,s2⟩:=loop (l:=y.1) (A:=y.2.1) (B:=y.2.2.1) hy.a0 hy.bl hy.n hy.pre (fun z=>(f z).getD []) (fun z hz hlt=>(hag z hz hlt).2.2) (y.2.2.1-y.2.1).toNat (y.2.1,y.2.2.1,y.2.2.2,true,true,y.1) (by simp only;omega) ⟨Int.le_refl _,hy.ab,Int.le_refl _,.refl,fun p q h1 h2 h3 h4=>by simp only at h4;omega⟩;exact⟨r,e f fun z hz hlt=>(hag z hz hlt).1,e g fun z hz hlt=>(hag z hz hlt).2.1,s1,s2⟩
noncomputable def aeu(n:Nat):Bool:=match mJ (IntKind.u64.wrap (n:Int))with|some _=>true|none=>false
theorem acM:((List.range 50).all fun n=>aeu n)=true:=by kernel_rfl
theorem aev{n:Nat}(h:n<50):∃m,mJ (IntKind.u64.wrap (n:Int))=some m:=by
 have h:=aR.1 acM n (List.mem_range.2 h);unfold aeu at h;split at h
 . rename_i m e;exact⟨m,e⟩
 . cases h
theorem tu(l:List T)(hn:l.length<50):∃r,PD.Cb l=some r/\r.Perm l/\r.Pairwise fun x y=>key x<=key y:=by
 unfold PD.Cb;obtain⟨m,e⟩:=aev hn;rw[e];simp only[aa];obtain⟨r,e2,h1,h2⟩:=adL (y:=(l,0,(l.length:Int),m)) ⟨Int.le_refl _,by simp only;omega,Int.le_refl _,hn,fun h=>absurd h (by simp)⟩;have e2:PD.Ki l 0 (l.length:Int) m=some r:=e2;have h1:tv 0 (l.length:Int) l r:=h1;have h2:uK r 0 (l.length:Int):=h2;rw[e2];refine⟨r,rfl,h1.perm,aX.2 fun i j hi hj hij=>?_⟩;have hl:=h1.len;have:=h2 (i:Int) (j:Int) (by omega) (by omega) (by omega);rwa[O4 hi,O4 hj]at this
end PD
end Go.Proofs.YtekpafdhgkocaaaGreat
namespace Go.Proofs.YtekpafdhgkocaaaGreat
section
open G
namespace QI
def key(x:bQ):Int:=x.dH.off
def cm(x y:bQ):Int:=if key x<key y then -1 else if key x>key y then 1 else 0
theorem zP(x y:bQ):eK x y=some (cm x y):=by
 unfold eK lL iP;unfold cm key;simp only[aa,bne_self_eq_false,aI,if_false];split
 . rfl
 . split<;>rfl
theorem Qv(x y:bQ):(cm x y<0)=(key x<key y):=by
 unfold cm;apply propext;split
 . simp[*]
 . split<;>simp[*]
instance :PD bQ:={default:=default,γ:=Int,c:=eK,f:=fun y=>decide (y<(0:Int)),key:=key,g:=cm,hc:=zP,hf:=fun x y=>by rw[aW,Qv],p:=fun y=>y<(0:Int),dp:=fun y=>inferInstanceAs (Decidable (y<(0:Int))),hp:=Qv}
theorem Hg:cW=PD.Cb (T:=bQ):=by kernel_rfl
theorem tu(l:List bQ)(hn:l.length<50):∃r,cW l=some r/\r.Perm l/\r.Pairwise fun x y=>key x<=key y:=by
 rw[Hg];exact PD.tu l hn
end QI
namespace QC
def key(x:bN):Int:=x.to
def cm(x y:bN):Int:=if key x<key y then -1 else if key x>key y then 1 else 0
theorem zP(x y:bN):cM x y=some (cm x y):=by
 unfold cM lL iP;unfold cm key;simp only[aa,bne_self_eq_false,aI,if_false];split
 . rfl
 . split<;>rfl
theorem Qv(x y:bN):(cm x y<0)=(key x<key y):=by
 unfold cm;apply propext;split
 . simp[*]
 . split<;>simp[*]
instance :PD bN:={default:=default,γ:=Int,c:=cM,f:=fun y=>decide (y<(0:Int)),key:=key,g:=cm,hc:=zP,hf:=fun x y=>by rw[aW,Qv],p:=fun y=>y<(0:Int),dp:=fun y=>inferInstanceAs (Decidable (y<(0:Int))),hp:=Qv}
theorem Hg:cE=PD.Cb (T:=bN):=by kernel_rfl
theorem tu(l:List bN)(hn:l.length<50):∃r,cE l=some r/\r.Perm l/\r.Pairwise fun x y=>key x<=key y:=by
 rw[Hg];exact PD.tu l hn
end QC
namespace QO
def key(x:Int):Int:=x
theorem zP(x y:Int):dE x y=some (decide (key x<key y)):=by
 unfold dE iP key;simp
instance :PD Int:={default:=default,γ:=Bool,c:=dE,f:=fun y=>y,key:=key,g:=fun x y=>decide (key x<key y),hc:=zP,hf:=fun _ _=>rfl,p:=fun y=>y=true,dp:=fun y=>inferInstanceAs (Decidable (y=true)),hp:=fun _ _=>propext decide_eq_true_iff}
theorem Hg:iY=PD.Cb (T:=Int):=by kernel_rfl
theorem tu(l:List Int)(hn:l.length<50):∃r,iY l=some r/\r.Perm l/\r.Pairwise fun x y=>key x<=key y:=by
 rw[Hg];exact PD.tu l hn
end QO
end
section
namespace G
section
variable {κ ν:Type}{eq:κ->κ->Bool}{l:List (κ×ν)}{k x:κ}{v:ν}
def EqB(eq:κ->κ->Bool):Prop:=∀x y,eq x y=true↔x=y
theorem gK:EqB dn:=fun x y=>by simp[dn]
theorem EqB.refl(h:EqB eq)(x:κ):eq x x=true:=(h x x).2 rfl
theorem EqB.ne(h:EqB eq){x y:κ}(hn:x≠y):eq x y=false:=by
 cases e:eq x y with
 |false=>rfl
 |true=>exact absurd ((h x y).1 e) hn
theorem vY(p:κ×ν):dT eq (p::l) x=if eq x p.1=true then some p.2 else dT eq l x:=by
 unfold dT;rw[List.find?_cons];cases eq x p.1<;>rfl
theorem Ys(r:List (κ×ν)):dT eq (l++r) x=(dT eq l x).or (dT eq r x):=by
 unfold dT;rw[List.find?_append];cases l.find? fun p=>eq x p.1<;>rfl
theorem Au:dT eq l x=none↔(l.any fun p=>eq x p.1)=false:=by
 unfold dT;rw[Option.map_eq_none_iff,List.find?_eq_none,List.any_eq_false]
theorem NU(h:EqB eq)(hv:dT eq l x=some v):(x,v)∈l:=by
 unfold dT at hv;obtain⟨p,hp,rfl⟩:=af.1 hv;have h1:=List.find?_some hp;have h2:=List.mem_of_find?_eq_some hp;obtain rfl:=(h _ _).1 h1;exact h2
theorem Q6(h:EqB eq):dT eq (lP eq l k v) x=if eq x k=true then some v else dT eq l x:=by
 unfold lP;split
 . rename_i ha
   induction l with
   |nil=>simp at ha
   |cons p l ih=>
    rw[aO,vY,vY]
    by_cases hp:eq k p.1=true
    . obtain rfl:=(h _ _).1 hp
      rw[if_pos hp]
      by_cases hx:eq x p.1=true
      . rw[if_pos hx,if_pos hx]
      . rw[if_neg hx,if_neg hx,if_neg hx]
        clear ih ha
        induction l with
        |nil=>rfl
        |cons q l ih=>
         rw[aO,vY,vY]
         by_cases hq:eq p.1 q.1=true
         . obtain e:=(h _ _).1 hq
           rw[if_pos hq,if_neg hx,if_neg (by rw[<- e];exact hx),ih]
         . rw[if_neg hq,ih]
    . rw[if_neg hp]
      rw[Bool.not_eq_true]at hp
      rw[List.any_cons,hp,Bool.false_or]at ha
      rw[ih ha]
      by_cases hx:eq x p.1=true
      . rw[if_pos hx]
        by_cases hk:eq x k=true
        . have e1:=(h _ _).1 hx
          have e2:=(h _ _).1 hk
          rw[<- e2,e1,h.refl]at hp;cases hp
        . rw[if_neg hk];rw[if_pos hx]
      . rw[if_neg hx,if_neg hx]
 . rename_i ha;rw[Bool.not_eq_true]at ha;rw[Ys];by_cases hx:eq x k=true
   . obtain rfl:=(h _ _).1 hx;rw[if_pos hx,Au.2 ha,vY,if_pos (h.refl _)];rfl
   . rw[if_neg hx,vY,if_neg hx];cases dT eq l x<;>rfl
theorem YA(hn:dT eq l k=none):lP eq l k v=l++[(k,v)]:=by
 unfold lP;rw[Au.1 hn];rfl
end
end G
end
end Go.Proofs.YtekpafdhgkocaaaGreat
