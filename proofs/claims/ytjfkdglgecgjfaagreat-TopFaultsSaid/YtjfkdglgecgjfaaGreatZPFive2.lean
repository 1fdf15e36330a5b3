/- Part of the proof. -/
import Derived.Test.YtjfkdglgecgjfaaGreatZPKA
import Derived.WalkKit
import Derived.Deep.MidRow
import Derived.Deep.QuietTactic
import Derived.BigQuiet
import Derived.Deep.RegionWith
import Derived.Lib.Hide
import Derived.WalkSpells
import Derived.Lib.SlBytesConst
import Derived.Laws.BytesArg
import Derived.Deep.AppendSrc
import Derived.RangeFuncRecord
import Derived.OrdersIn
import Derived.TacticsIn
namespace Go.Proofs.YtjfkdglgecgjfaaGreat
section
open IntKind(i64)
open G
namespace G
def E0(l:List bH)(o:Int):Prop:=∃c∈l,c.to<=o/\o<eF c
def sK(l:List bH):Prop:=∃i j,i<l.length/\j<l.length/\i≠j/\ov (cat l i) (cat l j)=true
structure M8(l:List bH)(t:Int):Prop where
 pos:0<=t
 cov:∀o,0<=o->o<t->E0 l o
 not:¬ E0 l t
 ab2:t=0\/∃c∈l,t=eF c
theorem nm{l:List bH}{i:Nat}(h:i<l.length):cat l i∈l:=by
 have:cat l i=l[i]:=by simp[cat,h]
 rw[this];exact aR h
theorem Hc{l:List bH}{c:bH}(h:c∈l):∃i,i<l.length/\cat l i=c:=by
 obtain⟨i,hi,e⟩:=List.getElem_of_mem h;exact⟨i,hi,by rw[eP hi,e]⟩
structure Ord(l:List bH)(ord:List Int):Prop where
 perm:ord.Perm (Js l.length)
 srt:qi l ord 0 l.length
section
variable {l:List bH}{ord:List Int}
theorem Ord.len(h:Ord l ord):ord.length=l.length:=by rw[h.perm.length_eq];simp[Js]
def uo(l:List bH)(ord:List Int)(k:Nat):bH:=cat l (ord.getD k 0).toNat
theorem Ord.ix(h:Ord l ord){k:Nat}(hk:k<l.length):Ix l (ord.getD k 0):=by
 have hl:=h.len;refine nf.get (l:=l) (fun x hx=>?_) (by omega);exact N7 l x (h.perm.mem_iff.1 hx)
theorem Ord.le(h:Ord l ord){p q:Nat}(hpq:p<=q)(hq:q<l.length):(uo l ord p).to<=(uo l ord q).to:=by
 by_cases e:p=q
 . subst e;exact Int.le_refl _
 . exact h.srt p q (Nat.zero_le _) (by omega) hq
theorem Ord.inj(h:Ord l ord){p q:Nat}(hp:p<l.length)(hq:q<l.length)(e:(ord.getD p 0).toNat=(ord.getD q 0).toNat):p=q:=by
 have hl:=h.len;have hn:ord.Nodup:=by
  rw[h.perm.nodup_iff];show List.Pairwise _ _;unfold Js;rw[List.pairwise_map];exact List.Pairwise.imp (fun h k=>h (by omega)) (List.nodup_range (n:=l.length))
 have i1:=(h.ix hp).1;have i2:=(h.ix hq).1;have e':ord.getD p 0=ord.getD q 0:=by omega
 have e1:ord.getD p 0=ord[p]:=by simp[show p<ord.length by omega]
 have e2:ord.getD q 0=ord[q]:=by simp[show q<ord.length by omega]
 rw[e1,e2]at e';have hpw:=List.pairwise_iff_getElem.1 (show List.Pairwise (· ≠ ·) ord from hn);rcases Nat.lt_trichotomy p q with k|k|k
 . exact absurd e' (hpw p q _ _ k)
 . exact k
 . exact absurd e'.symm (hpw q p _ _ k)
theorem Ord.ZP(h:Ord l ord){i:Nat}(hi:i<l.length):∃k,k<l.length/\(ord.getD k 0).toNat=i:=by
 have hl:=h.len;have hm:(i:Int)∈ord:=h.perm.mem_iff.2 (List.mem_map.2 ⟨i,List.mem_range.2 hi,rfl⟩);obtain⟨k,hk,e⟩:=List.getElem_of_mem hm;exact⟨k,by omega,by simp[hk,e]⟩
theorem Ord.mem(h:Ord l ord){k:Nat}(hk:k<l.length):uo l ord k∈l:=by
 have:=h.ix hk;obtain⟨h1,h2⟩:=this;exact nm (by omega)
theorem Ord.any(h:Ord l ord){c:bH}(hc:c∈l):∃k,k<l.length/\uo l ord k=c:=by
 obtain⟨i,hi,e⟩:=Hc hc;obtain⟨k,hk,e'⟩:=h.ZP hi;exact⟨k,hk,by unfold uo;rw[e',e]⟩
structure Iz(l:List bH)(ord:List Int)(k:Nat)(e:Int):Prop where
 zero:k=0->e=0
 last:∀j,k=j+1->e=eF (uo l ord j)
 apart:∀p q,p<q->q<k->eF (uo l ord p)<=(uo l ord q).to
theorem Iz.le{k:Nat}{e:Int}(h:Iz l ord k e)(hg:∀c∈l,0<=c.to/\1<=eM c)(ho:Ord l ord)(hk:k<=l.length){p:Nat}(hp:p<k):eF (uo l ord p)<=e:=by
 obtain⟨j,rfl⟩:∃j,k=j+1:=⟨k-1,by omega⟩;rw[h.last j rfl];by_cases e':p=j
 . subst e';exact Int.le_refl _
 . have h1:=h.apart p j (by omega) (by omega);have h2:=hg _ (ho.mem (k:=j) (by omega));unfold eF at *; omega
def Gap(l:List bH)(ord:List Int)(k:Nat)(e g:Int):Prop:=
 0<=e/\((g= -1/\∀o,0<=o->o<e->∃p,p<k/\(uo l ord p).to<=o/\o<eF (uo l ord p))\/
 (0<=g/\g<e/\(∀o,0<=o->o<g->∃p,p<k/\(uo l ord p).to<=o/\o<eF (uo l ord p))/\(∀p,p<k->¬ ((uo l ord p).to<=g/\g<eF (uo l ord p)))/\(g=0\/∃p,p<k/\g=eF (uo l ord p))))
theorem UB(hg:∀c∈l,0<=c.to/\1<=eM c/\eF c<=4611686018427387903)(hn:l.length<=17592186044416):
 (sK l/\mC l=some (0,true))\/(¬ sK l/\∃t,mC l=some (t,false)/\M8 l t):=by
 obtain⟨ord,hs,hp,hsr⟩:=QO hn
 have ho:Ord l ord:=⟨hp,hsr⟩
 have hlen:=ho.len
 unfold mC fH
 rw[hs]
 simp only[ae]
 obtain⟨r,hr,hq⟩:=e8 (f:=eR ord l)
  (fun n st=>∃(k:Nat) (e g:Int),st=((k:Int),0,false,e,g)/\n=l.length-k/\k<=l.length/\Iz l ord k e/\Gap l ord k e g)
  (fun r=>(∃e g,r=.inl (0,true,e,g)/\sK l)\/∃e g,r=.inr (0,false,e,g)/\Iz l ord l.length e/\Gap l ord l.length e g) (by
   rintro n st ⟨k,e,g,rfl,rfl,hk,hc,hgap⟩;unfold eR n7;by_cases hlt:k<l.length
   . have hix:=ho.ix hlt;have hm:=ho.mem hlt;have hgo:=hg _ hm;rw[if_pos (show((k:Int),(0:Int),false,e,g).1<((ord.length:Nat):Int)by simp;omega)];simp only[dP (0:Int) (show k<ord.length by omega),ae];rw[uF (k:=(ord.getD k 0).toNat) default (by have:=hix.1;omega) (by have h8:=hix.1;have h9:=hix.2;omega)];simp only[ae,uk];rw[show l.getD (ord.getD k 0).toNat default=uo l ord k from rfl];by_cases h1:(uo l ord k).to<e
     . right;rw[if_pos h1];refine⟨_,rfl,.inl ⟨_,_,rfl,?_⟩⟩;have hk0:k≠0:=fun h=>by have:=hc.zero h;omega
       have hl:=hc.last (k-1) (by omega);have hle:=ho.le (p:=k-1) (q:=k) (by omega) hlt;have hix':=ho.ix (k:=k-1) (by omega);refine⟨(ord.getD (k-1) 0).toNat,(ord.getD k 0).toNat,by have h8:=hix'.1;have h9:=hix'.2;omega,by have h8:=hix.1;have h9:=hix.2;omega,fun h=>by have:=ho.inj (by omega) hlt h;omega,?_⟩;show ov (uo l ord (k-1)) (uo l ord k)=true;unfold ov;rw[aJ];unfold eF at*
       omega
     . left;rw[if_neg h1];have hnew:Iz l ord (k+1) (eF (uo l ord k)):=⟨fun h=>by omega,fun j hj=>by rw[show j=k by omega],fun p q hpq hqk=>by
        by_cases hq:q=k
        . subst hq;have:=hc.le (fun c hc'=>⟨(hg c hc').1,(hg c hc').2.1⟩) ho (by omega) hpq;omega
        . exact hc.apart p q hpq (by omega)⟩
       have e1:gB ⟨(uo l ord k).to,eM (uo l ord k)⟩=some (eF (uo l ord k)):=by
        unfold gB;simp only;rw[jQ (by omega) (by unfold eF at hgo;omega)];rfl
       have e2:i64.wrap ((k:Int)+1)=((k+1:Nat):Int):=jf hlt (by omega);obtain⟨h0,hgp⟩:=hgap;have he:e<eF (uo l ord k)\/e=(uo l ord k).to/\e<eF (uo l ord k):=.inl (by unfold eF;omega);have he':e<eF (uo l ord k):=by unfold eF;omega
       rcases hgp with⟨rfl,hcov⟩|⟨hg0,hge,hcov,hnot,hcand⟩
       . by_cases h2:(uo l ord k).to>e
         . simp only[h2,if_true,ae,show((-1:Int)<0)=True by simp,decide_true,e1,e2];refine⟨l.length-(k+1),_,rfl,by omega,k+1,_,e,rfl,rfl,by omega,hnew,by omega,.inr ⟨h0,he',fun o h3 h4=>?_,fun p hp'=>?_,?_⟩⟩
           . obtain⟨p,h5,h6⟩:=hcov o h3 h4;exact⟨p,by omega,h6⟩
           . by_cases hpk:p=k
             . subst hpk;omega
             . have:=hc.le (fun c hc'=>⟨(hg c hc').1,(hg c hc').2.1⟩) ho (by omega) (p:=p) (by omega);omega
           . by_cases hk0:k=0
             . exact .inl (hc.zero hk0)
             . exact .inr ⟨k-1,by omega,hc.last (k-1) (by omega)⟩
         . simp only[h2,if_false,ae,aH,e1,e2];refine⟨l.length-(k+1),_,rfl,by omega,k+1,_,-1,rfl,rfl,by omega,hnew,by omega,.inl ⟨rfl,fun o h3 h4=>?_⟩⟩;by_cases h5:o<e
           . obtain⟨p,h6,h7⟩:=hcov o h3 h5;exact⟨p,by omega,h7⟩
           . exact⟨k,by omega,by omega,h4⟩
       . have hng:¬ g<0:=by omega
         have hres:(if(uo l ord k).to>e then some (decide (g<0))else some false)=some false:=by
          split
          . rw[decide_eq_false hng]
          . rfl
         simp only[hres,ae,aH,if_false,e1,e2];refine⟨l.length-(k+1),_,rfl,by omega,k+1,_,g,rfl,rfl,by omega,hnew,by omega,.inr ⟨hg0,by omega,fun o h3 h4=>?_,fun p hp'=>?_,?_⟩⟩
         . obtain⟨p,h5,h6⟩:=hcov o h3 h4;exact⟨p,by omega,h6⟩
         . by_cases hpk:p=k
           . subst hpk;omega
           . exact hnot p (by omega)
         . rcases hcand with h|⟨p,h5,h6⟩
           . exact .inl h
           . exact .inr ⟨p,by omega,h6⟩
   . right;rw[if_neg (show ¬ ((k:Int),(0:Int),false,e,g).1<((ord.length:Nat):Int)by simp;omega)];have:k=l.length:=by omega
     subst this;exact⟨_,rfl,.inr ⟨e,g,rfl,hc,hgap⟩⟩) l.length (0,0,false,0,-1)
  ⟨0,0,-1,rfl,rfl,Nat.zero_le _,⟨fun _=>rfl,fun j hj=>by omega,fun p q h1 h2=>by omega⟩,Int.le_refl _,.inl ⟨rfl,fun o h1 h2=>by omega⟩⟩
 rcases hq with⟨_,_,rfl,hm⟩|⟨e,g,rfl,hc,h0,hgap⟩
 . left
   rw[hr]
   exact⟨hm,rfl⟩
 . right
   rw[hr]
   simp only[ae,fX]
   have hgl:∀c∈l,0<=c.to/\1<=eM c:=fun c hc'=>⟨(hg c hc').1,(hg c hc').2.1⟩
   refine⟨fun⟨i,j,hi,hj,hne,hov⟩=>?_,?_⟩
   . obtain⟨p,hp1,hp2⟩:=ho.ZP hi
     obtain⟨q,hq1,hq2⟩:=ho.ZP hj
     have hpq:p≠q:=fun h=>hne (by rw[<- hp2,<- hq2,h])
     have k1:cat l i=uo l ord p:=by unfold uo;rw[hp2]
     have k2:cat l j=uo l ord q:=by unfold uo;rw[hq2]
     rw[k1,k2]at hov
     unfold ov at hov
     rw[aJ]at hov
     rcases Nat.lt_or_gt_of_ne hpq with h|h
     . have:=hc.apart p q h hq1;omega
     . have:=hc.apart q p h hp1;omega
   . rcases hgap with⟨rfl,hcov⟩|⟨hg0,hge,hcov,hnot,hcand⟩
     . rw[if_neg (by omega)]
       refine⟨e,rfl,h0,fun o h1 h2=>?_,fun⟨c,hcl,h1,h2⟩=>?_,?_⟩
       . obtain⟨p,h3,h4⟩:=hcov o h1 h2
         exact⟨_,ho.mem h3,h4⟩
       . obtain⟨k,hk,rfl⟩:=ho.any hcl
         have:=hc.le hgl ho (Nat.le_refl _) hk
         omega
       . by_cases hk0:l.length=0
         . exact .inl (hc.zero hk0)
         . exact .inr ⟨_,ho.mem (k:=l.length-1) (by omega),hc.last (l.length-1) (by omega)⟩
     . rw[if_pos (by omega)]
       refine⟨g,rfl,hg0,fun o h1 h2=>?_,fun⟨c,hcl,h1,h2⟩=>?_,?_⟩
       . obtain⟨p,h3,h4⟩:=hcov o h1 h2
         exact⟨_,ho.mem h3,h4⟩
       . obtain⟨k,hk,rfl⟩:=ho.any hcl
         exact hnot k hk ⟨h1,h2⟩
       . rcases hcand with h|⟨p,h3,h4⟩
         . exact .inl h
         . exact .inr ⟨_,ho.mem h3,h4⟩
end
end G
end
section
open IntKind(i64)
open G
namespace G
theorem zF{l:List bH}:sK l↔∃i,i<l.length/\Ov l i=true:=by
 have key:∀i j,i<l.length->j<i->ov (cat l i) (cat l j)=true->∃i,i<l.length/\Ov l i=true:=fun i j hi hj h=>by
  refine⟨i,hi,?_⟩;unfold Ov;rw[bC];refine⟨cat l j,?_,h⟩;rw[eP (by omega)];exact List.mem_take_iff_getElem.2 ⟨j,by omega,rfl⟩
 constructor
 . rintro⟨i,j,hi,hj,hne,h⟩;rcases Nat.lt_or_gt_of_ne hne with k|k
   . exact key j i hj k (by rw[WW];exact h)
   . exact key i j hi k h
 . rintro⟨i,hi,h⟩;unfold Ov at h;rw[bC]at h;obtain⟨c,hc,h⟩:=h;obtain⟨j,hj,rfl⟩:=List.mem_take_iff_getElem.1 hc;refine⟨i,j,hi,by omega,by omega,?_⟩;rw[eP (i:=j) (by omega)];exact h
section
variable {d:bV}
theorem DJ(hg:∀c∈d.bG,Good d c)(hn:d.bG.length<=17592186044416){i:Nat}(hi:i<d.bG.length):
 Iter (fy d.bG (i:Int) (d.bG.take i)) 0=some (if Ov d.bG i=true then .inr (i:Int)else .inl ((i+1:Nat):Int)):=by
 have hl:(d.bG.take i).length=i:=by simp;omega
 have hK:=kP (f:=fy d.bG (i:Int) (d.bG.take i)) (d.bG.take i) (fun c=>ov (cat d.bG i) c) (fun k=>(k:Int)) (fun _=>.inr (i:Int)) (.inl ((i+1:Nat):Int))
  (fun k h hb=>by
   obtain⟨e,he⟩:=Cb (hg _ (nm hi)) (hg _ (List.mem_of_mem_take (aR h)));unfold fy;rw[if_pos (by omega),fJ h,dP default hi];simp only[ae,uk,he,hb,aH,if_false];rw[jf (n:=17592186044417) (by omega) (by omega)])
  (fun k h hb=>by
   obtain⟨e,he⟩:=Cb (hg _ (nm hi)) (hg _ (List.mem_of_mem_take (aR h)));unfold fy;rw[if_pos (by omega),fJ h,dP default hi];simp only[ae,uk,he,hb,if_true])
  (by unfold fy;rw[if_neg (by omega),jf (n:=17592186044417) (by omega) (by omega)]) (s:=0) rfl
 rcases hK with⟨ha,he⟩|⟨k,h,hb,_,he⟩
 . rw[he,if_neg]
   unfold Ov;rw[bC]
   rintro⟨c,hc,h⟩
   rw[ha c hc]at h;cases h
 . rw[he,if_pos]
   unfold Ov;rw[bC]
   exact⟨_,aR h,hb⟩
theorem A0(hg:∀c∈d.bG,Good d c)(hn:d.bG.length<=17592186044416){i:Nat}(hi:i<d.bG.length):
 Iter (dY d (i:Int)) 0=some (if Ov d.bG i=true then .inr (.inr (4,(i:Int)))else .inl ((i+1:Nat):Int)):=by
 have hl:(d.bG.take i).length=i:=by simp;omega
 have hK:=kP (f:=dY d (i:Int)) (d.bG.take i) (fun c=>ov (cat d.bG i) c) (fun k=>(k:Int)) (fun _=>.inr (.inr (4,(i:Int)))) (.inl ((i+1:Nat):Int))
  (fun k h hb=>by
   obtain⟨e,he,he2⟩:=AG (hg _ (nm hi)) (hg _ (List.mem_of_mem_take (aR h)));have hk:(d.bG.take i)[k]=d.bG[k]'(by omega):=List.getElem_take;rw[hk]at he he2 hb;unfold dY;rw[if_pos (by omega),dP default hi,fJ (show k<d.bG.length by omega)];simp only[ae,qX,he];rw[if_neg (by rw[hb]at he2;simpa using he2),jf (n:=17592186044417) (by omega) (by omega)])
  (fun k h hb=>by
   obtain⟨e,he,he2⟩:=AG (hg _ (nm hi)) (hg _ (List.mem_of_mem_take (aR h)));have hk:(d.bG.take i)[k]=d.bG[k]'(by omega):=List.getElem_take;rw[hk]at he he2 hb;unfold dY;rw[if_pos (by omega),dP default hi,fJ (show k<d.bG.length by omega)];simp only[ae,qX,he];rw[if_pos (by rw[hb]at he2;simpa using he2)])
  (by unfold dY;rw[if_neg (by omega),jf (n:=17592186044417) (by omega) (by omega)]) (s:=0) rfl
 rcases hK with⟨ha,he⟩|⟨k,h,hb,_,he⟩
 . rw[he,if_neg]
   unfold Ov;rw[bC]
   rintro⟨c,hc,h⟩
   rw[ha c hc]at h;cases h
 . rw[he,if_pos]
   unfold Ov;rw[bC]
   exact⟨_,aR h,hb⟩
def uj(l:List bH)(i:Nat):Prop:=i<l.length/\Ov l i=true/\∀j,j<i->Ov l j=false
theorem uj.unique{l:List bH}{i j:Nat}(h:uj l i)(k:uj l j):i=j:=by
 rcases Nat.lt_trichotomy i j with q|q|q
 . have:=k.2.2 i q;rw[h.2.1]at this;cases this
 . exact q
 . have:=h.2.2 j q;rw[k.2.1]at this;cases this
theorem Mm(hg:∀c∈d.bG,Good d c)(hn:d.bG.length<=17592186044416)(hm:sK d.bG):
 ∃i,uj d.bG i/\ml d.bG=some (i:Int):=by
 have hK:=kP (f:=gS d.bG) (List.range d.bG.length) (fun i=>Ov d.bG i) (fun k=>(k:Int)) (fun k=>(k:Int)) (-1)
  (fun k h hb=>by
   simp at h hb;unfold gS;rw[if_pos (by omega),yi (by omega)];simp only[ae,aG];rw[DJ hg hn h,hb];rfl)
  (fun k h hb=>by
   simp at h hb;unfold gS;rw[if_pos (by omega),yi (by omega)];simp only[ae,aG];rw[DJ hg hn h,hb];rfl)
  (by unfold gS;simp) (s:=0) rfl
 unfold ml
 rcases hK with⟨ha,he⟩|⟨k,h,hb,hj,he⟩
 . obtain⟨i,hi,h⟩:=zF.1 hm
   have:=ha i (List.mem_range.2 hi)
   rw[h]at this;cases this
 . simp at h hb
   exact⟨k,⟨h,hb,fun j hjk=>by simpa using hj j hjk⟩,he⟩
theorem tH(hg:∀c∈d.bG,Good d c)(hn:d.bG.length<=17592186044416):
 (¬ sK d.bG/\Iter (dz d) 0=some (.inl ()))\/(sK d.bG/\∃i,uj d.bG i/\Iter (dz d) 0=some (.inr (4,(i:Int)))):=by
 have hK:=kP (f:=dz d) (List.range d.bG.length) (fun i=>Ov d.bG i) (fun k=>(k:Int)) (fun k=>.inr (4,(k:Int))) (.inl ())
  (fun k h hb=>by
   simp at h hb;unfold dz;rw[if_pos (by omega),A0 hg hn h,hb];rfl)
  (fun k h hb=>by
   simp at h hb;unfold dz;rw[if_pos (by omega),A0 hg hn h,hb];rfl)
  (by unfold dz;simp) (s:=0) rfl
 rcases hK with⟨ha,he⟩|⟨k,h,hb,hj,he⟩
 . refine .inl ⟨fun hm=>?_,he⟩
   obtain⟨i,hi,h⟩:=zF.1 hm
   have:=ha i (List.mem_range.2 hi)
   rw[h]at this;cases this
 . simp at h hb
   exact .inr ⟨zF.2 ⟨k,h,hb⟩,k,⟨h,hb,fun j hjk=>by simpa using hj j hjk⟩,he⟩
theorem KM(hg:∀c∈d.bG,Good d c)(hn:d.bG.length<=17592186044416)(o:Int):∃r,fW d o=some r/\(r<0↔¬ E0 d.bG o)/\(0<=r->∃k:Nat,∃h:k<d.bG.length,r=(k:Int)/\d.bG[k].to<=o/\o<eF d.bG[k]):=by
 have hh:∀c∈d.bG,lB c o=some (decide (c.to<=o/\o<eF c)):=fun c hc=>by
  have h1:=hg c hc;unfold lB oh;have:=h1.QT;have:=h1.max;have:=h1.zB;simp only[qX,ae];unfold eF at*
  rw[jQ (by omega) (by omega)];by_cases h:o≥c.to
  . rw[if_pos h];simp only[ae];congr 1;rw[bF];omega
  . rw[if_neg h];simp only[ae];congr 1;symm;rw[bD];omega
 have hK:=kP (f:=fI d o) d.bG (fun c=>decide (c.to<=o/\o<eF c)) (fun k=>(k:Int)) (fun k=>(k:Int)) (-1)
  (fun k h hb=>by
   unfold fI;rw[if_pos (by omega),fJ h];simp only[ae,hh _ (aR h),hb,aH,if_false];rw[jf (n:=17592186044417) (by omega) (by omega)])
  (fun k h hb=>by
   unfold fI;rw[if_pos (by omega),fJ h];simp only[ae,hh _ (aR h),hb,if_true])
  (by unfold fI;simp) (s:=0) rfl
 unfold fW;rcases hK with⟨ha,he⟩|⟨k,h,hb,hj,he⟩
 . refine⟨-1,he,?_,fun h=>by omega⟩;refine⟨fun _ ⟨c,hc,h⟩=>?_,fun _=>by omega⟩;have:=ha c hc;simp only[bD]at this;exact this h
 . refine⟨(k:Int),he,⟨fun h=>by omega,fun hnc=>absurd ⟨_,aR h,by simpa using hb⟩ hnc⟩,fun _=>⟨k,h,rfl,by simpa using hb⟩⟩
theorem Rj(hg:∀c∈d.bG,Good d c)(hn:d.bG.length<=17592186044416)(o:Int):∃r,fW d o=some r/\(r<0↔¬ E0 d.bG o):=by
 obtain⟨r,h1,h2,_⟩:=KM hg hn o;exact⟨r,h1,h2⟩
theorem BO(hg:∀c∈d.bG,Good d c)(hn:d.bG.length<=17592186044416){t:Int}(ht:M8 d.bG t):
 lz d=some (if t<d.bW then t else -1):=by
 unfold lz
 obtain⟨r,hr,hq⟩:=e8 (f:=lA d)
  (fun m st=>∃(k:Nat) (out:Int),st=(out,(k:Int)-1)/\m=d.bG.length+1-k/\k<=d.bG.length+1/\(out= -1\/(t<=out/\out<d.bW))/\(t<d.bW->(0<k/\t=0\/∃j,j+1<k/\t=eF (cat d.bG j))->out=t))
  (fun r=>r=if t<d.bW then t else -1) (by
   rintro m st ⟨k,out,rfl,rfl,hk,h1,h2⟩;unfold lA;by_cases hlt:k<d.bG.length+1
   . left;rw[if_pos (show(out,(k:Int)-1).2<(d.bG.length:Int)by simp;omega)];obtain⟨v,hv,hv0,hvc⟩:∃v,(if(out,(k:Int)-1).2≥0 then(idx d.bG (out,(k:Int)-1).2).bind fun x2=>(idx d.bG (out,(k:Int)-1).2).bind fun x3=>(eT x3).bind fun y2=>some (i64.wrap (x2.to+y2))else some 0)=some v/\0<=v/\(k=0/\v=0\/∃j,j+1=k/\v=eF (cat d.bG j)):=by
      by_cases hk0:k=0
      . subst hk0;exact⟨0,by rw[if_neg (by simp)],Int.le_refl _,.inl ⟨rfl,rfl⟩⟩
      . have hgo:=hg _ (nm (l:=d.bG) (i:=k-1) (by omega));rw[if_pos (by simp;omega)];simp only[uF (k:=k-1) default (show(k:Int)-1=((k-1:Nat):Int)by omega) (show k-1<d.bG.length by omega),ae,BF];have:=hgo.QT;have:=hgo.max;have:=hgo.zB;refine⟨eF (cat d.bG (k-1)),?_,by unfold eF at *; omega,.inr ⟨k-1,by omega,rfl⟩⟩;unfold eF at*
        show some (i64.wrap ((cat d.bG (k-1)).to+eM (cat d.bG (k-1))))=_;rw[jQ (by omega) (by omega)]
     rw[hv];obtain⟨f,hf,hfc⟩:=Rj hg hn v;obtain⟨b,hb,hbi⟩:∃b,(if v<d.bW then(fW d v).bind fun y1=>if y1<0 then(if(out,(k:Int)-1).1<0 then some true else some (decide (v<(out,(k:Int)-1).1)))else some false else some false)=some b/\(b=true↔v<d.bW/\¬ E0 d.bG v/\(out<0\/v<out)):=by
      by_cases c1:v<d.bW
      . rw[if_pos c1,hf];simp only[ae];by_cases c2:f<0
        . rw[if_pos c2];have c2':=hfc.1 c2;by_cases c3:out<0
          . exact⟨true,by rw[if_pos c3],by simp[c1,c2',c3]⟩
          . exact⟨_,by rw[if_neg c3],by simp[c1,c2',c3]⟩
        . exact⟨false,by rw[if_neg c2],by simp only[aH,false_iff];exact fun h=>c2 (hfc.2 h.2.1)⟩
      . exact⟨false,by rw[if_neg c1],by simp[c1]⟩
     simp only[ae];rw[hb];simp only[ae];have hw:i64.wrap ((k:Int)-1+1)=((k+1:Nat):Int)-1:=by rw[jQ (by omega) (by omega)];omega
     have hvt:¬ E0 d.bG v->t<=v:=fun h=>by
      refine Int.not_lt.1 fun hlt'=>h (ht.cov v hv0 hlt')
     by_cases hbt:b=true
     . have hb':=hbi.1 hbt;rw[if_pos hbt,hw];refine⟨d.bG.length+1-(k+1),_,rfl,by omega,k+1,v,rfl,rfl,by omega,.inr ⟨hvt hb'.2.1,hb'.1⟩,fun htn hc=>?_⟩;have h3:=hvt hb'.2.1;have key:(0<k/\t=0\/∃j,j+1<k/\t=eF (cat d.bG j))->v=t:=fun hc=>by
        have q1:=h2 htn hc;have q2:=ht.pos;have q3:=hb'.2.2;clear hvc hc h2;omega
       rcases hc with⟨_,h0⟩|⟨j,hj,hjt⟩
       . rcases hvc with⟨h4,h5⟩|⟨j,h4,h5⟩
         . omega
         . exact key (.inl ⟨by omega,h0⟩)
       . by_cases hjk:j+1=k
         . rcases hvc with⟨h4,h5⟩|⟨j',h4,h5⟩
           . omega
           . have:j'=j:=by omega
             subst this;omega
         . exact key (.inr ⟨j,by omega,hjt⟩)
     . have hb':=fun h=>hbt (hbi.2 h)
       rw[if_neg hbt,hw];refine⟨d.bG.length+1-(k+1),_,rfl,by omega,k+1,out,rfl,rfl,by omega,h1,fun htn hc=>?_⟩;have hvis:v=t->out=t:=fun hvt'=>by
        have:=ht.pos;have h6:¬ (out<0\/v<out):=fun h=>hb' ⟨by clear hvc hc h2;omega,by rw[hvt'];exact ht.not,h⟩
        clear hvc hc h2;omega
       rcases hc with⟨_,h0⟩|⟨j,hj,hjt⟩
       . rcases hvc with⟨h4,h5⟩|⟨j,h4,h5⟩
         . exact hvis (by omega)
         . exact h2 htn (.inl ⟨by omega,h0⟩)
       . by_cases hjk:j+1=k
         . rcases hvc with⟨h4,h5⟩|⟨j',h4,h5⟩
           . omega
           . have:j'=j:=by omega
             subst this;exact hvis (by omega)
         . exact h2 htn (.inr ⟨j,by omega,hjt⟩)
   . right;rw[if_neg (show ¬ (out,(k:Int)-1).2<(d.bG.length:Int)by simp;omega)];refine⟨_,rfl,?_⟩;by_cases htn:t<d.bW
     . rw[if_pos htn];refine h2 htn ?_;rcases ht.ab2 with h|⟨c,hc,h⟩
       . exact .inl ⟨by omega,h⟩
       . obtain⟨i,hi,rfl⟩:=Hc hc;exact .inr ⟨i,by omega,h⟩
     . rw[if_neg htn];rcases h1 with h|h
       . exact h
       . omega) (d.bG.length+1) ((-1),(-1))
  ⟨0,-1,by simp,by omega,by omega,.inl rfl,fun _ h=>by rcases h with h|⟨j,h,_⟩<;>omega⟩
 rw[hr,hq]
end
def KE(d:bV):Prop:=0<=d.cD/\d.cD<=4611686018427387903/\0<=d.bW/\d.bW<=4611686018427387903
instance (d:bV):Decidable (KE d):=by unfold KE;infer_instance
def AB(d:bV)(e p:Int):Prop:=
 (¬ KE d/\e=2/\p= -1)\/(KE d/\∃i,i<d.bG.length/\(∀j,j<i->Good d (cat d.bG j))/\¬ Good d (cat d.bG i)/\e=F0 d (cat d.bG i)/\p=i)\/
 (KE d/\(∀c∈d.bG,Good d c)/\sK d.bG/\∃i:Nat,uj d.bG i/\e=4/\p=i)\/
 (KE d/\(∀c∈d.bG,Good d c)/\¬ sK d.bG/\∃t,M8 d.bG t/\((t<d.bW/\e=3/\p=t)\/(¬ t<d.bW/\e=0/\p=0)))
theorem Q8{d:bV}(hn:d.bG.length<=17592186044416):∃e p,AB d e p/\jy d=some ⟨e,p⟩/\fA d=some (e,p):=by
 have h1:((iP d.cD).bind fun y4=>if y4=false then some true else(iP d.bW).bind fun y5=>some (!y5))=some (decide (¬ KE d)):=by
  unfold iP KE;simp only[II,ae];by_cases a:F7 0 d.cD=true
  . rw[a,if_neg (by simp)];congr 1;have a':=kp.1 a;by_cases b:F7 0 d.bW=true
    . have b':=kp.1 b;rw[b];symm;exact decide_eq_false (fun h=>h (by omega))
    . have b':=fun h=>b (kp.2 h)
      rw[show F7 0 d.bW=false by simpa using b];symm;exact bg (fun h=>b' (by omega))
  . have a':=fun h=>a (kp.2 h)
    rw[show F7 0 d.cD=false by simpa using a,if_pos rfl];congr 1;symm;exact bg (fun h=>a' (by omega))
 have h2:(if d.cD<0 then some true else if d.bW<0 then some true else(c9).bind fun y6=>if d.cD>y6 then some true else(c9).bind fun y7=>some (decide (d.bW>y7)))=some (decide (¬ KE d)):=by
  unfold c9 KE;simp only[ae];split
  . congr 1;symm;rw[aJ];omega
  . split
    . congr 1;symm;rw[aJ];omega
    . split
      . congr 1;symm;rw[aJ];omega
      . congr 1;rw[bF];omega
 unfold jy fA;rw[h1,h2];by_cases hr:KE d
 . simp only[hr,not_true_eq_false,decide_false,ae,aH,if_false];have hA:=kP (f:=jz d) d.bG (fun c=>decide (F0 d c≠0)) (fun k=>(k:Int)) (fun k=>.inr (⟨F0 d (cat d.bG k),(k:Int)⟩:ga)) (.inl ())
    (fun k h hb=>by
     unfold jz;rw[if_pos (by omega),fJ h];simp only[ae,FZ];rw[if_neg (by simpa using hb),jf (n:=17592186044417) (by omega) (by omega)])
    (fun k h hb=>by
     unfold jz;rw[if_pos (by omega),fJ h];simp only[ae,FZ];rw[if_pos (by simpa using hb),eP h])
    (by unfold jz;simp) (s:=0) rfl
   have hB:=kP (f:=cV d) d.bG (fun c=>decide (F0 d c≠0)) (fun k=>(k:Int)) (fun k=>.inr (F0 d (cat d.bG k),(k:Int))) (.inl ())
    (fun k h hb=>by
     unfold cV;rw[if_pos (by omega),fJ h];simp only[ae,sb];rw[if_neg (by simpa using hb),jf (n:=17592186044417) (by omega) (by omega)])
    (fun k h hb=>by
     unfold cV;rw[if_pos (by omega),fJ h];simp only[ae,sb];rw[if_pos (by simpa using hb),eP h])
    (by unfold cV;simp) (s:=0) rfl
   rcases hA with⟨ha,he⟩|⟨k,h,hb,hj,he⟩
   . rcases hB with⟨_,hf⟩|⟨k,h,hb,_,_⟩
     . have hg:∀c∈d.bG,Good d c:=fun c hc=>mJ.1 (by simpa using ha c hc)
       simp only[he,hf,ae,fX];rcases UB (l:=d.bG) (fun c hc=>⟨(hg c hc).QT,(hg c hc).zB,(hg c hc).max⟩) hn with⟨hm,ht⟩|⟨hm,t,ht,hte⟩
       . obtain⟨i,hi,ho⟩:=Mm hg hn hm;rcases tH hg hn with⟨hm',_⟩|⟨_,j,hj,ho'⟩
         . exact absurd hm hm'
         . have:=hi.unique hj;subst this;refine⟨4,(i:Int),.inr (.inr (.inl ⟨hr,hg,hm,i,hi,rfl,rfl⟩)),?_,?_⟩
           . rw[ht];simp only[ae,if_true,ho]
           . rw[ho'];rfl
       . rcases tH hg hn with⟨_,ho'⟩|⟨hm',_⟩
         . have:=hte.pos;by_cases hlt:t<d.bW
           . refine⟨3,t,.inr (.inr (.inr ⟨hr,hg,hm,t,hte,.inl ⟨hlt,rfl,rfl⟩⟩)),?_,?_⟩
             . rw[ht];simp[hlt]
             . rw[ho'];simp only[ae,fX,BO hg hn hte,if_pos hlt];rw[if_pos (by omega)]
           . refine⟨0,0,.inr (.inr (.inr ⟨hr,hg,hm,t,hte,.inr ⟨hlt,rfl,rfl⟩⟩)),?_,?_⟩
             . rw[ht];simp[hlt]
             . rw[ho'];simp only[ae,fX,BO hg hn hte,if_neg hlt];rw[if_neg (by omega)]
         . exact absurd hm' hm
     . have:=ha _ (aR h);rw[hb]at this;cases this
   . rcases hB with⟨ha,_⟩|⟨k',h',hb',hj',hf⟩
     . have:=ha _ (aR h);rw[hb]at this;cases this
     . have:k=k':=by
        rcases Nat.lt_trichotomy k k' with q|q|q
        . have:=hj' k q;rw[hb]at this;cases this
        . exact q
        . have:=hj k' q;rw[hb']at this;cases this
       subst this;refine⟨F0 d (cat d.bG k),(k:Int),.inr (.inl ⟨hr,k,h,fun j hjk=>?_,?_,rfl,rfl⟩),?_,?_⟩
       . rw[eP (by omega)];exact mJ.1 (by simpa using hj j hjk)
       . rw[eP h];exact Ui.1 (by simpa using hb)
       . rw[he];rfl
       . rw[hf];rfl
 . exact⟨2,-1,.inl ⟨hr,rfl,rfl⟩,by simp[hr],by simp[hr]⟩
structure VD(d:bV):Prop where
 X2:KE d
 LM:∀c∈d.bG,Good d c
 apart:¬ sK d.bG
 full:∀o,0<=o->o<d.bW->E0 d.bG o
theorem AB.zero{d:bV}{e p:Int}(h:AB d e p):(e=0↔VD d)/\(e=0->p=0):=by
 rcases h with⟨h1,rfl,rfl⟩|⟨h1,i,hi,_,hb,rfl,rfl⟩|⟨h1,h2,h3,i,_,rfl,rfl⟩|⟨h1,h2,h3,t,ht,⟨h4,rfl,rfl⟩|⟨h4,rfl,rfl⟩⟩
 . exact⟨⟨fun h=>by omega,fun h=>absurd h.X2 h1⟩,fun h=>by omega⟩
 . exact⟨⟨fun h=>absurd (mJ.1 h) hb,fun h=>absurd (h.LM _ (nm hi)) hb⟩,fun h=>absurd (mJ.1 h) hb⟩
 . exact⟨⟨fun h=>by omega,fun h=>absurd h3 h.apart⟩,fun h=>by omega⟩
 . exact⟨⟨fun h=>by omega,fun h=>absurd (h.full p ht.pos h4) ht.not⟩,fun h=>by omega⟩
 . exact⟨⟨fun _=>⟨h1,h2,h3,fun o h5 h6=>ht.cov o h5 (by omega)⟩,fun _=>rfl⟩,fun _=>rfl⟩
theorem Yu{d:bV}(hg:∀c∈d.bG,Good d c):∃t,M8 d.bG t:=by
 have hbig:∃n:Nat,¬ E0 d.bG (n:Int):=⟨4611686018427387904,fun⟨c,hc,_,h2⟩=>by have:=(hg c hc).max;omega⟩;have hmin:∀n:Nat,¬ E0 d.bG (n:Int)->∃m:Nat,¬ E0 d.bG (m:Int)/\∀k,k<m->E0 d.bG (k:Int):=fun n=>by
  induction n using Nat.strongRecOn with
  |_ n ih=>
   intro h
   by_cases hc:∀k,k<n->E0 d.bG (k:Int)
   . exact⟨n,h,hc⟩
   . obtain⟨k,hk⟩:=Classical.not_forall.1 hc
     rw[Classical.not_imp]at hk
     exact ih k hk.1 hk.2
 obtain⟨n,hn⟩:=hbig;obtain⟨m,h1,h2⟩:=hmin n hn;refine⟨(m:Int),by omega,fun o h3 h4=>?_,h1,?_⟩
 . have:=h2 o.toNat (by omega);rw[Int.toNat_of_nonneg h3]at this;exact this
 . cases m with
   |zero=>exact .inl rfl
   |succ m=>
    obtain⟨c,hc,k1,k2⟩:=h2 m (by omega)
    refine .inr ⟨c,hc,?_⟩
    refine bm fun he=>h1 ⟨c,hc,by omega,by omega⟩
theorem Vq{d:bV}(hn:d.bG.length<=17592186044416):∃e p,AB d e p/\fA d=some (e,p):=by
 have h2:(if d.cD<0 then some true else if d.bW<0 then some true else(c9).bind fun y6=>if d.cD>y6 then some true else(c9).bind fun y7=>some (decide (d.bW>y7)))=some (decide (¬ KE d)):=by
  unfold c9 KE;simp only[ae];split
  . congr 1;symm;rw[aJ];omega
  . split
    . congr 1;symm;rw[aJ];omega
    . split
      . congr 1;symm;rw[aJ];omega
      . congr 1;rw[bF];omega
 unfold fA;rw[h2];by_cases hr:KE d
 . simp only[hr,not_true_eq_false,decide_false,ae,aH,if_false];have hB:=kP (f:=cV d) d.bG (fun c=>decide (F0 d c≠0)) (fun k=>(k:Int)) (fun k=>.inr (F0 d (cat d.bG k),(k:Int))) (.inl ())
    (fun k h hb=>by
     unfold cV;rw[if_pos (by omega),fJ h];simp only[ae,sb];rw[if_neg (by simpa using hb),jf (n:=17592186044417) (by omega) (by omega)])
    (fun k h hb=>by
     unfold cV;rw[if_pos (by omega),fJ h];simp only[ae,sb];rw[if_pos (by simpa using hb),eP h])
    (by unfold cV;simp) (s:=0) rfl
   rcases hB with⟨ha,hf⟩|⟨k,h,hb,hj,hf⟩
   . have hg:∀c∈d.bG,Good d c:=fun c hc=>mJ.1 (by simpa using ha c hc)
     simp only[hf,ae,fX];rcases tH hg hn with⟨hm,ho'⟩|⟨hm,j,hj,ho'⟩
     . obtain⟨t,hte⟩:=Yu hg;have:=hte.pos;by_cases hlt:t<d.bW
       . refine⟨3,t,.inr (.inr (.inr ⟨hr,hg,hm,t,hte,.inl ⟨hlt,rfl,rfl⟩⟩)),?_⟩;rw[ho'];simp only[ae,fX,BO hg hn hte,if_pos hlt];rw[if_pos (by omega)]
       . refine⟨0,0,.inr (.inr (.inr ⟨hr,hg,hm,t,hte,.inr ⟨hlt,rfl,rfl⟩⟩)),?_⟩;rw[ho'];simp only[ae,fX,BO hg hn hte,if_neg hlt];rw[if_neg (by omega)]
     . refine⟨4,(j:Int),.inr (.inr (.inl ⟨hr,hg,hm,j,hj,rfl,rfl⟩)),?_⟩;rw[ho'];rfl
   . refine⟨F0 d (cat d.bG k),(k:Int),.inr (.inl ⟨hr,k,h,fun j hjk=>?_,?_,rfl,rfl⟩),?_⟩
     . rw[eP (by omega)];exact mJ.1 (by simpa using hj j hjk)
     . rw[eP h];exact Ui.1 (by simpa using hb)
     . rw[hf];rfl
 . exact⟨2,-1,.inl ⟨hr,rfl,rfl⟩,by simp[hr]⟩
theorem KP{d:bV}(hn:d.bG.length<=17592186044416):∃b,gZ d=some b/\(b=true↔VD d):=by
 obtain⟨e,p,h1,h3⟩:=Vq hn;unfold gZ;rw[h3];simp only[ae];exact⟨decide (e=0),by congr 1,by rw[aJ];exact h1.zero.1⟩
end G
end
section
open G
namespace G
theorem Good.aax{d d':bV}{c:bH}(h:Good d c)(h1:d'.cD=d.cD)(h2:d'.bW=d.bW):Good d' c:=
 ⟨h.QT,h.zB,by rw[h2];exact h.fits,h.max,fun k=>by rw[h1];exact h.copy k,h.lit⟩
theorem SE{d:bV}{c:bH}(h:Good d c):Mb c=true/\Ma c=true:=by
 have h0:=h.QT;have h1:=h.zB;have h2:=h.max;unfold eF at h2;have ht:pn c.to=true:=by unfold pn;exact bg (by omega)
 by_cases hk:c.kind=1
 . obtain⟨k1,k2,k3,k4,k5⟩:=h.copy hk;refine⟨by unfold Mb;rw[hk];rfl,?_⟩;unfold Ma;rw[if_pos hk,ht,k5];have a1:pn c.dN=true:=by unfold pn;exact bg (by omega)
   have a2:pn c.len=true:=by unfold pn;exact bg (by omega)
   rw[a1,a2];rfl
 . obtain⟨k1,k2,k3⟩:=h.lit hk;refine⟨by unfold Mb;rw[k1];rfl,?_⟩;unfold Ma;rw[if_neg hk,ht,k2,k3];rfl
theorem B2(a0:List UInt8)(x:bV)(want:Int)(hw0:want≠0)(hw:Bb x=0)(hf:uB x=true)
 (hC:∀f g e p,AB ⟨x.cD,x.bW,f,g,x.bG⟩ e p->e=want):
 ((j8 x).bind fun y15=>
   (mD y15.1).bind fun y16=>
   (iJ a0 x).bind fun y17=>
   (ka).bind fun y18=>
   if y18=true then
    (jy x).bind fun y19=>
    if y19.code=want then
     if y16.2.code=want then
      if y17.2.code=want then
       (jN a0 x).bind fun y20=>
       some (y20.code == want)
      else
       some false
     else
      some false
    else
     some false
   else
    some false)=some true:=by
 have hr:ka=some true:=rfl
 obtain⟨hc,he⟩:=V9 hf
 have hg:=YW hw
 rw[Re hg hw (by omega) (by omega)]
 simp only[ae]
 have hd:=VQ hg (by omega) [] (by simpa using(by omega:(enc x).length<=1099511627776))
 rw[aW,if_pos rfl]at hd
 obtain⟨e1,p1,i1,c1,_⟩:=Q8 (d:=⟨x.cD,x.bW,hash (lb 32 x.mw),hash (lb 32 x.mu),x.bG⟩) (by show x.bG.length<=_;omega)
 have q1:=hC _ _ _ _ i1
 subst q1
 have hl:mD (enc x)=some (⟨0,0,fun _=>0,fun _=>0,[]⟩,⟨e1,p1⟩):=by
  unfold mD;rw[Ra (by omega),hd];simp only[ae,and_self,if_true,c1];rw[show decide (e1=0/\p1=0)=false from decide_eq_false fun k=>hw0 k.1,if_pos rfl]
 rw[hl]
 obtain⟨e2,p2,i2,c2,_⟩:=Q8 (d:=x) (by omega)
 have q2:=hC x.mw x.mu _ _ i2
 subst q2
 have hv:jN a0 x=some ⟨e2,p2⟩:=by
  unfold jN;rw[c2];simp only[ae];rw[show decide (e2=0/\p2=0)=false from decide_eq_false fun k=>hw0 k.1,if_pos rfl]
 have hcv:iJ a0 x=some (⟨0,0,fun _=>0,fun _=>0,[]⟩,⟨e2,p2⟩):=by
  unfold iJ;rw[hv];simp only[ae];rw[show decide (e2=0/\p2=0)=false from decide_eq_false fun k=>hw0 k.1,if_pos rfl]
 rw[hcv,hr,c2,hv]
 simp
theorem E6{t z:Int}(h1:F7 t 1=true):vl (⟨1,t,z,1,[]⟩:bH)=if F7 z 1=true then 0 else 2:=by
 have e:eM (⟨1,t,z,1,[]⟩:bH)=1:=rfl;unfold vl;rw[e];simp[h1]
theorem V8{x:bV}(hf:uB x=true):(∀c∈x.bG,c.data.length<=300)/\x.bG.length<=40:=by
 unfold uB at hf;simp only[al,aJ,aE]at hf;exact hf
theorem GU{x:bV}(h1:∀c∈x.bG,c.data.length<=300)(h2:x.bG.length<=40):uB x=true:=by
 unfold uB;simp only[al,aJ,aE];exact⟨h1,h2⟩
theorem yD{x:bV}(hr:KE x)(h:∀c∈x.bG,Mb c=true/\Ma c=true):Bb x=0:=by
 unfold Bb;have h1:x.bG.all Mb=true:=aE.2 fun c hc=>(h c hc).1
 have h2:x.bG.all Ma=true:=aE.2 fun c hc=>(h c hc).2
 have h3:pn x.cD=true:=by unfold pn;exact bg ⟨hr.1,hr.2.1⟩
 have h4:pn x.bW=true:=by unfold pn;exact bg ⟨hr.2.2.1,hr.2.2.2⟩
 rw[h1,h2,h3,h4];rfl
section
variable {d:bV}{c:bH}{r:List bH}{f g:Nat->UInt8}{e p:Int}
theorem ZS(hv:VD d)(hd:d.bG=c::r)(h:AB ⟨d.cD,d.bW,f,g,r⟩ e p):e=3:=by
 have hgood:∀x∈r,Good (⟨d.cD,d.bW,f,g,r⟩:bV) x:=fun x hx=>(hv.LM x (by rw[hd];exact au _ hx)).aax rfl rfl
 have hcg:=hv.LM c (by rw[hd];exact aq ..);rcases h with⟨h1,_⟩|⟨_,i,hi,_,hb,_⟩|⟨_,_,⟨i,j,hi,hj,hij,ho⟩,_⟩|⟨_,_,_,t,ht,⟨_,h4,_⟩|⟨h4,_⟩⟩
 . exact absurd hv.X2 h1
 . exact absurd (hgood _ (nm hi)) hb
 . refine absurd ⟨i+1,j+1,?_,?_,by omega,?_⟩ hv.apart
   . rw[hd];exact Nat.succ_lt_succ hi
   . rw[hd];exact Nat.succ_lt_succ hj
   . rw[hd];exact ho
 . exact h4
 . have l1:=hcg.zB;have l2:=hcg.fits;have l3:=hcg.QT;unfold eF at l2;obtain⟨c',hc',k1,k2⟩:=ht.cov c.to l3 (by have h4:¬ t<d.bW:=h4;omega);obtain⟨k,hk,ek⟩:=Hc hc';refine absurd ⟨0,k+1,?_,?_,by omega,?_⟩ hv.apart
   . rw[hd];exact Nat.succ_pos _
   . rw[hd];exact Nat.succ_lt_succ hk
   . rw[hd];show ov c (cat r k)=true;rw[ek];unfold ov;exact bg ⟨k2,by unfold eF;omega⟩
theorem Uy(hv:VD d)(hd:d.bG=c::r)(h:AB ⟨d.cD,d.bW,f,g,(c::r)++[c]⟩ e p):e=4:=by
 have hgood:∀x∈(c::r)++[c],Good (⟨d.cD,d.bW,f,g,(c::r)++[c]⟩:bV) x:=fun x hx=>(hv.LM x (by
  rw[hd];rcases bj.1 hx with hx|hx
  . exact hx
  . rw[List.mem_singleton.1 hx];exact aq ..)).aax rfl rfl
 have hcg:=hv.LM c (by rw[hd];exact aq ..);have hm:sK ((c::r)++[c]):=by
  refine⟨0,r.length+1,by simp,by simp,by omega,?_⟩;have e1:cat ((c::r)++[c]) 0=c:=rfl;have e2:cat ((c::r)++[c]) (r.length+1)=c:=by
   rw[eP (by simp)];simp
  rw[e1,e2];have l1:=hcg.zB;unfold ov eF;exact bg (by omega)
 rcases h with⟨h1,_⟩|⟨_,i,hi,_,hb,_⟩|⟨_,_,_,i,_,h4,_⟩|⟨_,_,hn,_⟩
 . exact absurd hv.X2 h1
 . exact absurd (hgood _ (nm hi)) hb
 . exact h4
 . exact absurd hm hn
theorem Kw{m:bH}{want:Int}(hv:VD d)(hw:want≠0)(hs:∀f g l,F0 ⟨d.cD,d.bW,f,g,l⟩ m=want)(h:AB ⟨d.cD,d.bW,f,g,m::r⟩ e p):e=want:=by
 have hb0:¬ Good (⟨d.cD,d.bW,f,g,m::r⟩:bV) m:=fun k=>hw ((hs f g _).symm.trans (mJ.2 k))
 rcases h with⟨h1,_⟩|⟨_,i,hi,hj,hb,h4,_⟩|⟨_,hg,_⟩|⟨_,hg,_⟩
 . exact absurd hv.X2 h1
 . cases i with
   |zero=>rw[h4];exact hs f g _
   |succ i=>exact absurd (hj 0 (Nat.succ_pos _)) hb0
 . exact absurd (hg m (aq ..)) hb0
 . exact absurd (hg m (aq ..)) hb0
end
theorem ZT(a0:List UInt8)(a1:bV)(hn:a1.bG.length<=9223372036854775807):∃b,(
 if(a0.length:Int)>(300:Int)then
  some true
 else
  (jL a1).bind fun y2=>
  if y2=false then
   some true
  else
   (kj a0 a1).bind fun y3=>
   if y3=false then
    some true
   else
    some ((a1.bG.length:Int) == (0:Int)))=some b/\
 (b=false->a0.length<=300/\a1.bG.length<=20/\uB a1=true/\VD a1/\a1.cD=(a0.length:Int)/\a1.bG≠[]):=by
 by_cases h0:(a0.length:Int)>300
 . exact⟨true,by rw[if_pos h0],fun h=>by cases h⟩
 rw[if_neg h0]
 unfold jL
 by_cases h1:¬ (a1.bG.length:Int)<=20
 . exact⟨true,by rw[if_neg h1];rfl,fun h=>by cases h⟩
 have h1:=Classical.not_not.1 h1
 rw[if_pos h1]
 obtain⟨b,hb,hbv⟩:=KP (d:=a1) (by omega)
 unfold l7 kj
 rw[Yc a1 hn,hb]
 simp only[ae]
 cases hf:uB a1 with
 |false=>exact⟨true,by simp,fun h=>by cases h⟩
 |true=>
  simp only[if_true]
  by_cases h2:¬ a1.bW<=1000
  . exact⟨true,by rw[if_neg h2];rfl,fun h=>by cases h⟩
  have h2:=Classical.not_not.1 h2
  rw[if_pos h2]
  cases b with
  |false=>exact⟨true,by simp,fun h=>by cases h⟩
  |true=>
   simp only[ae,Bool.true_eq_false,if_false,if_true]
   by_cases h3:¬ a1.cD=(a0.length:Int)
   . exact⟨true,by rw[if_neg h3];rfl,fun h=>by cases h⟩
   have h3:=Classical.not_not.1 h3
   rw[if_pos h3,bg (show a1.bW<=3000 by omega)]
   refine⟨((a1.bG.length:Int) == (0:Int)),by simp,fun h=>⟨by omega,by omega,by trivial,hbv.1 rfl,h3,fun e=>?_⟩⟩
   rw[e]at h;simp at h
end G
theorem G.qG(a0:List UInt8)(a1:bV)(a2:UInt8)(h0:Len a0)(h1:bV.Ok a1):kD a0 a1 a2=some true:=by
 have hn:=h1.2.2.1;unfold Len at hn;unfold kD;obtain⟨b,hb,hp⟩:=ZT a0 a1 hn;rw[hb];simp only[ae]
 cases b with
 |true=>rfl
 |false=>
  obtain⟨k1,k2,k3,hv,k4,k5⟩:=hp rfl
  obtain⟨fa,fl⟩:=V8 k3
  obtain⟨d1,d2,d3,d4,l⟩:=a1
  cases l with
  |nil=>exact absurd rfl k5
  |cons c r=>
  simp only[aH,if_false]
  have k2:r.length+1<=20:=k2
  have k4:d1=(a0.length:Int):=k4
  have hcg:=hv.LM c (aq ..)
  have AZ:=hv.X2
  have hgo:∀x∈(c::r),Mb x=true/\Ma x=true:=fun x hx=>SE (hv.LM x hx)
  rw[nS (by simp;omega)]
  simp only[ae,aO]
  have hi0:idx (c::r) (0:Int)=some c:=rfl
  have hwith:∀l',kC ⟨d1,d2,d3,d4,c::r⟩ l'=some ⟨d1,d2,d3,d4,l'⟩:=fun _=>rfl
  have hcm:=hcg.QT;have hcx:=hcg.max;have hcl:=hcg.zB;have hcf:=hcg.fits
  unfold eF at hcx hcf
  have hnew:∀z:Int,0<=z->z<=4611686018427387903->Mb (⟨1,c.to,z,1,[]⟩:bH)=true/\Ma (⟨1,c.to,z,1,[]⟩:bH)=true:=fun z z0 z1=>by
   refine⟨rfl,?_⟩;have a1:pn c.to=true:=by unfold pn;exact bg (by omega)
   have a2:pn z=true:=by unfold pn;exact bg (by omega)
   show(pn c.to&&pn z&&pn 1&&true)=true;rw[a1,a2];rfl
  have hset:∀m:bH,(c::r).set (0:Int).toNat m=m::r:=fun _=>rfl
  split
  . rw[show jP (c::r) (1:Int)=some r by unfold jP;rw[if_pos (by simp;omega)];rfl]
    simp only[ae,hwith]
    refine B2 a0 ⟨d1,d2,d3,d4,r⟩ 3 (by decide) (yD AZ fun x hx=>hgo x (au _ hx)) (GU (fun x hx=>fa x (au _ hx)) (by show r.length<=40;omega)) fun f g e p h=>ZS hv rfl h
  . split
    . rw[hi0]
      simp only[ae]
      rw[nS (by simp;omega)]
      simp only[ae,hwith]
      refine B2 a0 ⟨d1,d2,d3,d4,(c::r)++[c]⟩ 4 (by decide) (yD AZ fun x hx=>?_) (GU (fun x hx=>?_) (by simp;omega)) fun f g e p h=>Uy hv rfl h
      . rcases bj.1 hx with hx|hx
        . exact hgo x hx
        . rw[List.mem_singleton.1 hx];exact hgo c (aq ..)
      . rcases bj.1 hx with hx|hx
        . exact fa x hx
        . rw[List.mem_singleton.1 hx];exact fa c (aq ..)
    . split
      . rw[hi0]
        simp only[ae,hwith,hset]
        refine B2 a0 ⟨d1,d2,d3,d4,⟨1,c.to,4611686018427387903,1,[]⟩::r⟩ 2 (by decide) (yD AZ fun x hx=>?_) (GU (fun x hx=>?_) (by simp;omega)) fun f g e p h=>Kw hv (by decide) (fun f g l=>?_) h
        . rcases aB.1 hx with rfl|hx
          . exact hnew _ (by decide) (by decide)
          . exact hgo x (au _ hx)
        . rcases aB.1 hx with rfl|hx
          . simp
          . exact fa x (au _ hx)
        . have:vl (⟨1,c.to,4611686018427387903,1,[]⟩:bH)=2:=by
           rw[E6 (kp.2 (by omega)),if_neg fun h=>by have:=kp.1 h;omega]
          unfold F0
          rw[this];rfl
      . rw[hi0]
        simp only[ae,hwith,hset]
        refine B2 a0 ⟨d1,d2,d3,d4,⟨1,c.to,(a0.length:Int),1,[]⟩::r⟩ 5 (by decide) (yD AZ fun x hx=>?_) (GU (fun x hx=>?_) (by simp;omega)) fun f g e p h=>Kw hv (by decide) (fun f g l=>?_) h
        . rcases aB.1 hx with rfl|hx
          . exact hnew _ (by omega) (by omega)
          . exact hgo x (au _ hx)
        . rcases aB.1 hx with rfl|hx
          . simp
          . exact fa x (au _ hx)
        . have:vl (⟨1,c.to,(a0.length:Int),1,[]⟩:bH)=0:=by
           rw[E6 (kp.2 (by omega)),if_pos (kp.2 (by omega))]
          unfold F0
          rw[this,if_neg (by simp),if_pos ⟨rfl,by show(a0.length:Int)+1>d1;omega⟩]
end
section
open Go.RowKit
structure Mem where
 w:World
 im:Nat->Nat->Prop
def Mem.ok(m:Mem)(b o:Nat):Prop:=m.im b o/\b<m.w.heap.size
structure Le(m m':Mem):Prop where
 os:m'.w.os=m.w.os
 tape:m'.w.tape=m.w.tape
 output:m'.w.output=m.w.output
 size:m.w.heap.size<=m'.w.heap.size
 same:∀b o,m.ok b o->m'.ok b o/\m'.w.cell? ⟨b,o,none⟩=m.w.cell? ⟨b,o,none⟩
theorem Le.refl(m:Mem):Le m m:=⟨rfl,rfl,rfl,Nat.le_refl _,fun _ _ h=>⟨h,rfl⟩⟩
theorem Le.trans{a b c:Mem}(h:Le a b)(k:Le b c):Le a c:=
 ⟨k.os.trans h.os,k.tape.trans h.tape,k.output.trans h.output,Nat.le_trans h.size k.size,fun x o hx=>
  ⟨(k.same x o (h.same x o hx).1).1,((k.same x o (h.same x o hx).1).2).trans (h.same x o hx).2⟩⟩
structure bR where
 blocks:List Nat
 LH:Nat->Nat->Prop
 ok:World->Prop
 lt:∀w,ok w->∀b∈blocks,b<w.heap.size
 loc:∀w w',ok w->(∀b∈blocks,w'.heap[b]?=w.heap[b]?)->ok w'
theorem mq{w:World}{b:Nat}{o:Obj}(h:w.heap[b]?=some o):b<w.heap.size:=(Array.getElem?_eq_some_iff.1 h).1
def bR.box(b:Nat)(cs:Array Value)(T:TypeId):bR:=
 ⟨[b],fun _ _=>True,fun w=>w.heap[b]?=some (.cells cs T (0,0)),fun w h c hc=>by simp at hc;subst hc;exact mq h,
  fun w w' h hs=>by rw[hs b (by simp)];exact h⟩
def bR.obj(b:Nat)(o:Obj):bR:=
 ⟨[b],fun _ _=>True,fun w=>w.heap[b]?=some o,fun w h c hc=>by simp at hc;subst hc;exact mq h,
  fun w w' h hs=>by rw[hs b (by simp)];exact h⟩
def bR.row(g:Option Nat)(T:TypeId)(size n:Nat):bR:=
 ⟨g.toList,fun _ o=>n<=o,fun w=>∀b,g=some b->∃cur,w.heap[b]?=some (.cells cur T (0,0))/\cur.size=size,
  fun w h c hc=>by
   have:g=some c:=by cases g<;>simp_all
   obtain⟨cur,h1,_⟩:=h c this;exact mq h1,
  fun w w' h hs b hb=>by
   obtain⟨cur,h1,h2⟩:=h b hb;exact⟨cur,by rw[hs b (by rw[hb];simp)];exact h1,h2⟩⟩
def bK(L:List bR):List Nat:=L.flatMap (·.blocks)
@[simp] theorem VB:bK []=[]:=rfl
@[simp] theorem eJ(e:bR)(L:List bR):bK (e::L)=e.blocks++bK L:=rfl
@[simp] theorem c8(L R:List bR):bK (L++R)=bK L++bK R:=by simp[bK]
theorem dg{L:List bR}{b:Nat}:b∈bK L↔∃e∈L,b∈e.blocks:=by simp[bK]
structure Ow(m:Mem)(L:List bR):Prop where
 nodup:(bK L).Nodup
 ok:∀e∈L,e.ok m.w
 apart:∀e∈L,∀b∈e.blocks,∀o,e.LH b o->¬ m.ok b o
structure St(B:List Nat)(m0 m:Mem)(L:List bR):Prop where
 le:Le m0 m
 kept:∀b,b<m0.w.heap.size->b ∉ B->m.w.heap[b]?=m0.w.heap[b]?
 news:∀b o,m.ok b o->m0.ok b o\/m0.w.heap.size<=b\/b∈B
 ow:Ow m L
 mQ:∀b∈bK L,b∈B\/m0.w.heap.size<=b
section
variable {B:List Nat}{m0 m m':Mem}{L R L':List bR}{e e':bR}
theorem St.refl(h:Ow m L):St (bK L) m m L:=
 ⟨Le.refl m,fun _ _ _=>rfl,fun _ _ h=>.inl h,h,fun _ h=>.inl h⟩
theorem Ow.lt(h:Ow m L){b:Nat}(hb:b∈bK L):b<m.w.heap.size:=by
 obtain⟨e,he,hbe⟩:=dg.1 hb;exact e.lt _ (h.ok e he) b hbe
theorem Ow.right(h:Ow m (L++R)):Ow m R:=
 ⟨by have:=h.nodup;rw[c8]at this;exact(List.nodup_append.1 this).2.1,fun e he=>h.ok e (by simp[he]),fun e he=>h.apart e (by simp[he])⟩
theorem Ow.left(h:Ow m (L++R)):Ow m L:=
 ⟨by have:=h.nodup;rw[c8]at this;exact(List.nodup_append.1 this).1,fun e he=>h.ok e (by simp[he]),fun e he=>h.apart e (by simp[he])⟩
theorem Ow.nil(m:Mem):Ow m []:=⟨List.nodup_nil,fun e h=>(by cases h),fun e h=>(by cases h)⟩
theorem St.frame(h:St B m0 m (L++R))(k:St (bK L) m m' L'):St B m0 m' (L'++R):=by
 have hn:=h.ow.nodup;rw[c8]at hn;obtain⟨_,nR,nLR⟩:=List.nodup_append.1 hn;have hR:=h.ow.right;have out:∀b∈bK R,b ∉ bK L:=fun b hb hl=>nLR b hl b hb rfl
 have hlt:∀b∈bK R,b<m.w.heap.size:=fun b hb=>hR.lt hb
 refine⟨h.le.trans k.le,fun b hb hB=>?_,fun b o ho=>?_,⟨?_,fun e he=>?_,fun e he b hb o ho hm=>?_⟩,fun b hb=>?_⟩
 . rw[k.kept b (Nat.lt_of_lt_of_le hb h.le.size) (fun hl=>?_),h.kept b hb hB];rcases h.mQ b (by rw[c8];exact aU _ hl)with h1|h1
   . exact hB h1
   . omega
 . rcases k.news b o ho with h1|h1|h1
   . exact h.news b o h1
   . exact .inr (.inl (Nat.le_trans h.le.size h1))
   . rcases h.mQ b (by rw[c8];exact aU _ h1)with h2|h2
     . exact .inr (.inr h2)
     . exact .inr (.inl h2)
 . rw[c8];refine List.nodup_append.2 ⟨k.ow.nodup,nR,fun a ha b hb=>?_⟩;rintro rfl;rcases k.mQ a ha with h1|h1
   . exact out a hb h1
   . have:=hlt a hb;omega
 . rcases bj.1 he with h1|h1
   . exact k.ow.ok e h1
   . exact e.loc _ _ (hR.ok e h1) fun b hb=>k.kept b (hlt b (dg.2 ⟨e,h1,hb⟩)) (out b (dg.2 ⟨e,h1,hb⟩))
 . rcases bj.1 he with h1|h1
   . exact k.ow.apart e h1 b hb o ho hm
   . have hbr:=dg.2 ⟨e,h1,hb⟩;rcases k.news b o hm with h2|h2|h2
     . exact hR.apart e h1 b hb o ho h2
     . have:=hlt b hbr;omega
     . exact out b hbr h2
 . rw[c8]at hb;rcases bj.1 hb with h1|h1
   . rcases k.mQ b h1 with h2|h2
     . exact h.mQ b (by rw[c8];exact aU _ h2)
     . exact .inr (Nat.le_trans h.le.size h2)
   . exact h.mQ b (by rw[c8];exact ba _ h1)
theorem St.call(h:St B m0 m R)(k:St [] m m' L'):St B m0 m' (L'++R):=St.frame (L:=[]) h k
theorem Ow.perm(h:Ow m L)(p:List.Perm L R):Ow m R:=
 ⟨((List.Perm.flatMap_right bR.blocks p).nodup_iff).1 h.nodup,fun e he=>h.ok e (p.mem_iff.2 he),fun e he=>h.apart e (p.mem_iff.2 he)⟩
theorem St.perm(h:St B m0 m L)(p:List.Perm L R):St B m0 m R:=
 ⟨h.le,h.kept,h.news,h.ow.perm p,fun b hb=>h.mQ b (by
  obtain⟨e,he,hbe⟩:=dg.1 hb;exact dg.2 ⟨e,p.mem_iff.2 he,hbe⟩)⟩
theorem DK:∀(L:List bR) (i:Nat) (e:bR),L[i]?=some e->List.Perm L (e::L.eraseIdx i)
 |[],_,_,h=>by simp at h
 |x::L,0,e,h=>by simp at h;subst h;exact List.Perm.refl _
 |x::L,i+1,e,h=>by
  simp at h;exact((DK L i e h).cons x).trans (List.Perm.swap e x _)
theorem St.front(h:St B m0 m L)(i:Nat)(hi:L[i]?=some e):St B m0 m (e::L.eraseIdx i):=h.perm (DK L i e hi)
theorem St.drop(h:St B m0 m (e::L)):St B m0 m L:=
 ⟨h.le,h.kept,h.news,Ow.right (L:=[e]) h.ow,fun b hb=>h.mQ b (by rw[eJ];exact ba _ hb)⟩
theorem St.ox(h:St B m0 m (L++R)):St B m0 m L:=
 ⟨h.le,h.kept,h.news,Ow.left h.ow,fun b hb=>h.mQ b (by rw[c8];exact aU _ hb)⟩
def Mem.tk(m:Mem)(X:Nat->Nat->Prop):Mem:=⟨m.w,fun b o=>m.ok b o\/X b o⟩
theorem Le.tk(m:Mem)(X:Nat->Nat->Prop):Le m (m.tk X):=⟨rfl,rfl,rfl,Nat.le_refl _,fun _ _ h=>⟨⟨.inl h,h.2⟩,rfl⟩⟩
theorem St.tk(h:St B m0 m (e::R))(X:Nat->Nat->Prop)(hX:∀b o,X b o->b∈e.blocks)(hok:e'.ok m.w)(hb:∀b∈e'.blocks,b∈e.blocks)(hn:e'.blocks.Nodup)
 (hf:∀b∈e'.blocks,∀o,e'.LH b o->e.LH b o/\¬ X b o):St B m0 (m.tk X) (e'::R):=by
 have k:St (bK [e]) m (m.tk X) [e']:=by
  refine⟨Le.tk m X,fun _ _ _=>rfl,fun b o ho=>?_,⟨by simpa using hn,fun x hx=>?_,fun x hx b hbb o ho hm=>?_⟩,fun b hbb=>?_⟩
  . rcases ho.1 with h1|h1
    . exact .inl h1
    . exact .inr (.inr (by simpa using hX b o h1))
  . simp at hx;subst hx;exact hok
  . simp at hx;subst hx;obtain⟨h1,h2⟩:=hf b hbb o ho;rcases hm.1 with h3|h3
    . exact h.ow.apart e (by simp) b (hb b hbb) o h1 h3
    . exact h2 h3
  . simp at hbb;exact .inl (by simpa using hb b hbb)
 exact St.frame (L:=[e]) h k
@[reducible] def Mem.up(m:Mem)(w':World):Mem:=⟨w',fun b o=>m.ok b o\/m.w.heap.size<=b⟩
theorem uE{w w':World}(h:Below w.heap.size w w'){b o:Nat}(hb:b<w.heap.size):w'.cell? ⟨b,o,none⟩=w.cell? ⟨b,o,none⟩:=by
 unfold World.cell?;rw[Below.block h b hb]
theorem Le.up(m:Mem){w':World}(h:Below m.w.heap.size m.w w'):Le m (m.up w'):=
 ⟨Below.os h,Below.tape h,Below.output h,Below.size h,fun b o hb=>⟨⟨.inl hb,Nat.lt_of_lt_of_le hb.2 (Below.size h)⟩,uE h hb.2⟩⟩
theorem St.up(m:Mem){w':World}(h:Below m.w.heap.size m.w w'):St [] m (m.up w') []:=
 ⟨Le.up m h,fun b hb _=>Below.block h b hb,fun b o ho=>ho.1.imp id .inl,Ow.nil _,fun b hb=>by simp at hb⟩
theorem St.below(h:St [] m m' L):Below m.w.heap.size m.w m'.w:=
 ⟨h.le.os,h.le.tape,h.le.output,h.le.size,fun b hb=>h.kept b hb (by simp)⟩
theorem St.new{o:Obj}(h:St B m0 m L){w':World}(hw:w'=m.w.alloc o)(e:bR)(hb:e.blocks=[m.w.heap.size])(hok:e.ok w'):St B m0 ⟨w',m.ok⟩ (e::L):=by
 subst hw;have k:St [] m ⟨m.w.alloc o,m.ok⟩ [e]:=by
  have hg:Below m.w.heap.size m.w (m.w.alloc o):=(Below.refl _ _).alloc (Nat.le_refl _) o;refine⟨⟨rfl,rfl,rfl,Below.size hg,fun b x hx=>⟨⟨hx,Nat.lt_of_lt_of_le hx.2 (Below.size hg)⟩,uE hg hx.2⟩⟩,fun b hb _=>Below.block hg b hb,fun b x hx=>.inl hx.1,⟨by simp[hb],fun x hx=>?_,fun x hx c hc q _ hm=>?_⟩,fun c hc=>?_⟩
  . simp at hx;subst hx;exact hok
  . simp at hx;subst hx;rw[hb]at hc;simp at hc;subst hc;exact absurd hm.1.2 (by simp)
  . simp[hb]at hc;subst hc;exact .inr (Nat.le_refl _)
 exact h.call k
theorem eu(w:World)(o:Obj):(w.alloc o).heap[w.heap.size]?=some o:=heap_alloc_new w o
theorem St.zH(h:St B m0 m L)(cs:Array Value)(T:TypeId):St B m0 ⟨m.w.alloc (.cells cs T (0,0)),m.ok⟩ (.box m.w.heap.size cs T::L):=
 h.new rfl (.box m.w.heap.size cs T) rfl (eu _ _)
theorem St.drew(h:St B m0 m L):St B m0 (m.up m.w.drew) L:=h.call (St.up m (Below.refl _ _).drew)
theorem St.write{b:Nat}{cs cs':Array Value}{T:TypeId}(h:St B m0 m (.box b cs T::R)){w':World}(hw:m.w.grownBy w' (some b))(hsz:w'.heap.size=m.w.heap.size)(hb:w'.heap[b]?=some (.cells cs' T (0,0))):
 St B m0 ⟨w',m.ok⟩ (.box b cs' T::R):=by
 have hap:=h.ow.apart (.box b cs T) (by simp) b (by simp[bR.box])
 have k:St (bK [bR.box b cs T]) m ⟨w',m.ok⟩ [bR.box b cs' T]:=by
  have hk:∀c,c<m.w.heap.size->c≠b->w'.heap[c]?=m.w.heap[c]?:=fun c hc hne=>hw.block c hc (fun e=>hne (by cases e;rfl))
  refine⟨⟨hw.os,hw.tape,hw.output,hw.size,fun c o hc=>⟨⟨hc,by simpa[hsz]using hc.2⟩,?_⟩⟩,fun c hc hn=>hk c hc (by simpa[bR.box]using hn),fun c o hc=>.inl hc.1,⟨by simp[bR.box],fun x hx=>?_,fun x hx c hc o _ hm=>?_⟩,fun c hc=>?_⟩
  . have hne:c≠b:=fun e=>by subst e;exact hap o trivial hc
    show w'.cell? _=m.w.cell? _;unfold World.cell?;rw[hk c hc.2 hne]
  . simp at hx;subst hx;exact hb
  . simp at hx;subst hx;simp[bR.box]at hc;subst hc;exact hap o trivial hm.1
  . simp[bR.box]at hc;subst hc;exact .inl (by simp[bR.box])
 exact St.frame (L:=[bR.box b cs T]) h k
theorem St.Cp{b:Nat}{cs:Array Value}{T:TypeId}(h:St B m0 m L)(i:Nat)(hi:L[i]?=some (.box b cs T)):m.w.heap[b]?=some (.cells cs T (0,0)):=
 h.ow.ok _ (List.mem_of_getElem? hi)
theorem St.JT{b:Nat}{o:Obj}(h:St B m0 m L)(i:Nat)(hi:L[i]?=some (.obj b o)):m.w.heap[b]?=some o:=
 h.ow.ok _ (List.mem_of_getElem? hi)
theorem St.lN{b:Nat}{o o':Obj}(h:St B m0 m (.obj b o::R)){w':World}(hw:m.w.grownBy w' (some b))(hsz:w'.heap.size=m.w.heap.size)(hb:w'.heap[b]?=some o'):
 St B m0 ⟨w',m.ok⟩ (.obj b o'::R):=by
 have hap:=h.ow.apart (.obj b o) (by simp) b (by simp[bR.obj])
 have k:St (bK [bR.obj b o]) m ⟨w',m.ok⟩ [bR.obj b o']:=by
  have hk:∀c,c<m.w.heap.size->c≠b->w'.heap[c]?=m.w.heap[c]?:=fun c hc hne=>hw.block c hc (fun e=>hne (by cases e;rfl))
  refine⟨⟨hw.os,hw.tape,hw.output,hw.size,fun c o hc=>⟨⟨hc,by simpa[hsz]using hc.2⟩,?_⟩⟩,fun c hc hn=>hk c hc (by simpa[bR.obj]using hn),fun c o hc=>.inl hc.1,⟨by simp[bR.obj],fun x hx=>?_,fun x hx c hc o _ hm=>?_⟩,fun c hc=>?_⟩
  . have hne:c≠b:=fun e=>by subst e;exact hap o trivial hc
    show w'.cell? _=m.w.cell? _;unfold World.cell?;rw[hk c hc.2 hne]
  . simp at hx;subst hx;exact hb
  . simp at hx;subst hx;simp[bR.obj]at hc;subst hc;exact hap o trivial hm.1
  . simp[bR.obj]at hc;subst hc;exact .inl (by simp[bR.obj])
 exact St.frame (L:=[bR.obj b o]) h k
end
def Spec(P:Program)(f:FuncId)(args:Array Value)(m:Mem)(L:List bR)(Q:Value->Mem->List bR->Prop):Prop:=
 Calls P f args m.w fun e w'=>∃v m' L',e=.returned v/\m'.w=w'/\St (bK L) m m' L'/\Q v m' L'
end
section
open Go.RowKit
def At(m:Mem)(b o:Nat)(cs:List Value):Prop:=∀k v,cs[k]?=some v->m.ok b (o+k)/\m.w.cell? ⟨b,o+k,none⟩=some v
theorem At.mono{m m':Mem}{b o:Nat}{cs:List Value}(h:At m b o cs)(l:Le m m'):At m' b o cs:=
 fun k v hv=>let⟨h1,h2⟩:=h k v hv;⟨(l.same _ _ h1).1,((l.same _ _ h1).2).trans h2⟩
def Sl(m:Mem)(sz:Nat)(a:Option Addr)(n cap:Nat)(xs:List Value):Prop:=
 xs.length=n*sz/\n<=cap/\cap<=maxLen/\(a=none->cap=0)/\∀j v,xs[j]?=some v->∃b o,a=some ⟨b,o,none⟩/\m.ok b (o+j)/\m.w.cell? ⟨b,o+j,none⟩=some v
section
variable {m m':Mem}{sz:Nat}{a:Option Addr}{n cap:Nat}{xs ys:List Value}
theorem Sl.mono(h:Sl m sz a n cap xs)(l:Le m m'):Sl m' sz a n cap xs:=
 ⟨h.1,h.2.1,h.2.2.1,h.2.2.2.1,fun j v hv=>let⟨b,o,ha,h1,h2⟩:=h.2.2.2.2 j v hv;⟨b,o,ha,(l.same _ _ h1).1,((l.same _ _ h1).2).trans h2⟩⟩
theorem Sl.nil(m:Mem)(sz:Nat):Sl m sz none 0 0 []:=⟨by simp,Nat.le_refl _,by simp[maxLen],fun _=>rfl,fun j v h=>by simp at h⟩
theorem Sl.sC(h:Sl m sz a n cap xs):n<=9223372036854775807/\cap<=9223372036854775807/\n<=cap:=by
 have h1:=h.2.1;have h2:=h.2.2.1;unfold maxLen at h2;omega
theorem Sl.at(h:Sl m sz a n cap xs)(hp:0<xs.length):∃b o,a=some ⟨b,o,none⟩/\At m b o xs:=by
 obtain⟨b,o,ha,_⟩:=h.2.2.2.2 0 xs[0] (by simp[hp]);refine⟨b,o,ha,fun i v hv=>?_⟩;obtain⟨b',o',ha',hc⟩:=h.2.2.2.2 i v hv;rw[ha]at ha';cases ha';exact hc
def dG(a:Option Addr)(m l s:Nat):Option Addr:=if m=l then a else a.map (·.add (l*s))
theorem gR(a:Option Addr)(m s:Nat):dG a m 0 s=a:=by
 unfold dG;split
 . rfl
 . cases a<;>simp[Addr.add]
theorem Sl.VP(h:Sl m sz a n cap xs)(l r q:Nat)(hl:l<=r)(hr:r<=n)(hrm:r<=q)(hm:q<=cap):
 Sl m sz (dG a q l sz) (r-l) (q-l) ((xs.take (r*sz)).drop (l*sz)):=by
 unfold dG
 obtain⟨h1,h2,h3,h0,h4⟩:=h
 have hle:r*sz<=n*sz:=Nat.mul_le_mul_right _ hr
 refine⟨by rw[bh,aM,h1,Nat.min_eq_left hle,Nat.sub_mul],by omega,by omega,fun e=>?_,fun j v hv=>?_⟩
 . have:a=none:=by
    split at e
    . exact e
    . simpa using e
   have:=h0 this;omega
 have hv':xs[l*sz+j]?=some v/\l*sz+j<r*sz:=by
  simp only[List.getElem?_drop,List.getElem?_take]at hv;split at hv
  . exact⟨hv,by assumption⟩
  . cases hv
 have hlr:l<r:=by
  by_cases e:l=r
  . subst e;omega
  . omega
 obtain⟨b,o,ha,hk,hc⟩:=h4 _ _ hv'.1
 refine⟨b,o+l*sz,?_,?_,?_⟩
 . rw[if_neg (by omega),ha];simp[Addr.add_mid]
 . rw[Nat.add_assoc];exact hk
 . rw[Nat.add_assoc];exact hc
end
def dM{α:Type}(R:Mem->α->List Value->Prop)(m:Mem)(sz:Nat)(a:Option Addr)(cap:Nat)(l:List α):Prop:=
 ∃css:List (List Value),Sl m sz a l.length cap css.flatten/\css.length=l.length/\
  ∀(i:Nat) (x:α) (cs:List Value),l[i]?=some x->css[i]?=some cs->cs.length=sz/\R m x cs
structure oY{α:Type}(R:Mem->α->List Value->Prop)(sz:Nat):Prop where
 mono:∀{m m':Mem} {x:α} {cs:List Value},R m x cs->Le m m'->R m' x cs
 size:∀{m:Mem} {x:α} {cs:List Value},R m x cs->cs.length=sz
 one:∀{m:Mem} {x:α} {cs:List Value},R m x cs->∀u∈cs,u.oneCell'=true
 pos:0<sz
section
variable {α:Type}{R:Mem->α->List Value->Prop}{m m':Mem}{sz:Nat}{a:Option Addr}{cap:Nat}{l l':List α}
theorem dM.mono(hR:oY R sz)(h:dM R m sz a cap l)(g:Le m m'):dM R m' sz a cap l:=
 let⟨css,h1,h2,h4⟩:=h;⟨css,h1.mono g,h2,fun i x cs hx hc=>⟨(h4 i x cs hx hc).1,hR.mono (h4 i x cs hx hc).2 g⟩⟩
theorem dM.sC(h:dM R m sz a cap l):l.length<=9223372036854775807/\cap<=9223372036854775807/\l.length<=cap:=let⟨_,h1,_⟩:=h;h1.sC
theorem dM.nil(m:Mem)(sz:Nat):dM R m sz none 0 ([]:List α):=⟨[],Sl.nil m sz,rfl,fun i x cs h=>by simp at h⟩
theorem ig{β:Type}(sz:Nat):∀(css:List (List β)),(∀(i:Nat) (cs:List β),css[i]?=some cs->cs.length=sz)->∀(i j:Nat) (cs:List β) (v:β),css[i]?=some cs->cs[j]?=some v->css.flatten[i*sz+j]?=some v
 |[],_,i,j,cs,v,h,_=>by simp at h
 |c::css,hl,0,j,cs,v,h,hv=>by
  simp at h;subst h;have hj:j<c.length:=(List.getElem?_eq_some_iff.1 hv).1;simp only[List.flatten_cons,Nat.zero_mul,aL];rw[List.getElem?_append_left hj];exact hv
 |c::css,hl,i+1,j,cs,v,h,hv=>by
  have hc:c.length=sz:=hl 0 c rfl;simp at h;simp only[List.flatten_cons];rw[List.getElem?_append_right (by rw[hc,aN];omega)];have e:(i+1)*sz+j-c.length=i*sz+j:=by rw[hc,aN];omega
  rw[e];exact ig sz css (fun k cs hk=>hl (k+1) cs (by simpa using hk)) i j cs v h hv
theorem dM.lens{css:List (List Value)}(h2:css.length=l.length)(h4:∀(i:Nat) (x:α) (cs:List Value),l[i]?=some x->css[i]?=some cs->cs.length=sz/\R m x cs):
 ∀(i:Nat) (cs:List Value),css[i]?=some cs->cs.length=sz:=fun i cs hc=>by
 have hi:i<css.length:=(List.getElem?_eq_some_iff.1 hc).1
 exact(h4 i (l[i]'(by omega)) cs (by simp) hc).1
theorem dM.get(h:dM R m sz a cap l)(hs:0<sz){i:Nat}(hi:i<l.length):∃b o cs,a=some ⟨b,o,none⟩/\cs.length=sz/\R m l[i] cs/\At m b (o+i*sz) cs:=by
 obtain⟨css,h1,h2,h4⟩:=h;have hcl:=dM.lens h2 h4;have hpos:0<css.flatten.length:=by rw[h1.1];exact Nat.mul_pos (by omega) hs
 obtain⟨b,o,ha,hc⟩:=h1.at hpos;have hjc:i<css.length:=by omega
 obtain⟨k1,k2⟩:=h4 i l[i] css[i] (by simp) (by simp);refine⟨b,o,css[i],ha,k1,k2,fun k v hv=>?_⟩;have:=hc _ _ (ig sz css hcl i k css[i] v (by simp) hv);rw[Nat.add_assoc];exact this
theorem nw{β:Type}(sz:Nat):∀(css:List (List β)) (k:Nat),(∀(i:Nat) (cs:List β),css[i]?=some cs->cs.length=sz)->css.flatten.drop (k*sz)=(css.drop k).flatten
 |css,0,_=>by simp
 |[],k+1,_=>by simp
 |c::css,k+1,hl=>by
  have hc:c.length=sz:=hl 0 c rfl;simp only[List.flatten_cons,List.drop_succ_cons];rw[show(k+1)*sz=c.length+k*sz by rw[hc,aN];omega,List.drop_append,List.drop_of_length_le (by omega),show c.length+k*sz-c.length=k*sz by omega,aO];exact nw sz css k (fun i cs hk=>hl (i+1) cs (by simpa using hk))
theorem ny{β:Type}(sz:Nat):∀(css:List (List β)) (k:Nat),(∀(i:Nat) (cs:List β),css[i]?=some cs->cs.length=sz)->css.flatten.take (k*sz)=(css.take k).flatten
 |css,0,_=>by simp
 |[],k+1,_=>by simp
 |c::css,k+1,hl=>by
  have hc:c.length=sz:=hl 0 c rfl;simp only[List.flatten_cons,List.take_succ_cons];rw[show(k+1)*sz=c.length+k*sz by rw[hc,aN];omega,List.take_append,bA (by omega),show c.length+k*sz-c.length=k*sz by omega];rw[ny sz css k (fun i cs hk=>hl (i+1) cs (by simpa using hk))]
theorem dM.VP(h:dM R m sz a cap l)(i r q:Nat)(hl:i<=r)(hr:r<=l.length)(hrm:r<=q)(hm:q<=cap):
 dM R m sz (dG a q i sz) (q-i) ((l.take r).drop i):=by
 obtain⟨css,h1,h2,h4⟩:=h
 have hcl:=dM.lens h2 h4
 refine⟨(css.take r).drop i,?_,by simp[h2],fun j x cs hx hc=>?_⟩
 . have:=h1.VP i r q hl hr hrm hm
   rw[ny sz css r hcl,nw sz (css.take r) i (fun k cs hk=>hcl k cs (by
    rw[List.getElem?_take]at hk;split at hk
    . exact hk
    . cases hk))]at this
   rw[show((l.take r).drop i).length=r-i by simp;omega]
   exact this
 . simp only[List.getElem?_drop,List.getElem?_take]at hx hc
   split at hx
   . rename_i hlt
     rw[if_pos hlt]at hc
     exact h4 _ _ _ hx hc
   . cases hx
theorem dM.cut(h:dM R m sz a cap l)(i r:Nat)(hl:i<=r)(hr:r<=l.length):dM R m sz (dG a cap i sz) (cap-i) ((l.take r).drop i):=
 h.VP i r cap hl hr (Nat.le_trans hr h.sC.2.2) (Nat.le_refl _)
theorem dM.upto(h:dM R m sz a cap l)(r:Nat)(hr:r<=l.length):dM R m sz a cap (l.take r):=by
 have:=h.cut 0 r (by omega) hr;simpa[gR]using this
theorem dM.from(h:dM R m sz a cap l)(i:Nat)(hl:i<=l.length):dM R m sz (dG a cap i sz) (cap-i) (l.drop i):=by
 have:=h.cut i l.length hl (Nat.le_refl _);rwa[bA (Nat.le_refl _)]at this
theorem dM.abo(hR:oY R sz){b o:Nat}{css:List (List Value)}(hlen:css.length=l.length)(hc:∀(i:Nat) (x:α) (cs:List Value),l[i]?=some x->css[i]?=some cs->R m x cs)
 (hat:At m b o css.flatten) (hcap:l.length<=cap) (hm:cap<=maxLen):dM R m sz (some ⟨b,o,none⟩) cap l:=by
 have hl:∀(i:Nat) (cs:List Value),css[i]?=some cs->cs.length=sz:=fun i cs hci=>by
  have hi:i<css.length:=(List.getElem?_eq_some_iff.1 hci).1;exact hR.size (hc i (l[i]'(by omega)) cs (by simp) hci)
 have hfl:∀(css:List (List Value)),(∀(i:Nat) (cs:List Value),css[i]?=some cs->cs.length=sz)->css.flatten.length=css.length*sz:=by
  intro css
  induction css with
  |nil=>intro _;simp
  |cons c css ih=>
   intro h
   simp only[List.flatten_cons,ay,bw]
   rw[h 0 c rfl,ih (fun i cs hi=>h (i+1) cs (by simpa using hi)),aN];omega
 refine⟨css,⟨by rw[hfl css hl,hlen],hcap,hm,(fun e=>by cases e),fun j v hv=>⟨b,o,rfl,(hat j v hv).1,(hat j v hv).2⟩⟩,hlen,fun i x cs hx hci=>⟨hl i cs hci,hc i x cs hx hci⟩⟩
end
structure dE(P:Program)(t e:TypeId)(z:Value)(sz bytes:Nat):Prop where
 gH:P.underlying t=some (.slice e)
 info:(P.info? e).map (fun i=>(i.zero,i.size,i.bytes))=some (some z,sz,bytes)
 zs:z.cells.size=sz
 pos:0<sz
theorem info_parts{P:Program}{e:TypeId}{z:Value}{sz bytes:Nat}(h:(P.info? e).map (fun i=>(i.zero,i.size,i.bytes))=some (some z,sz,bytes)):
 ∃i,P.info? e=some i/\i.zero=some z/\i.size=sz/\i.bytes=bytes:=by
 cases hi:P.info? e with
 |none=>simp[hi]at h
 |some i=>simp[hi]at h;exact⟨i,rfl,h⟩
abbrev fP(g:Option Nat):Option Addr:=g.map fun b=>⟨b,0,none⟩
def Mem.now(m:Mem):Mem:=⟨m.w,fun _ _=>True⟩
theorem Sl.all{m:Mem}{sz n cap:Nat}{a:Option Addr}{xs:List Value}(h:Sl m sz a n cap xs):Sl m.now sz a n cap xs:=
 ⟨h.1,h.2.1,h.2.2.1,h.2.2.2.1,fun j v hv=>by obtain⟨b,o,h1,h2,h3⟩:=h.2.2.2.2 j v hv;exact⟨b,o,h1,⟨trivial,h2.2⟩,h3⟩⟩
def Rc{α:Type}(R:Mem->α->List Value->Prop)(m:Mem)(sz:Nat)(a:Option Addr)(cap:Nat)(l:List α):Prop:=
 ∃css:List (List Value),Sl m.now sz a l.length cap css.flatten/\css.length=l.length/\
  ∀(i:Nat) (x:α) (cs:List Value),l[i]?=some x->css[i]?=some cs->cs.length=sz/\R m x cs
theorem dM.src{α:Type}{R:Mem->α->List Value->Prop}{m:Mem}{sz cap:Nat}{a:Option Addr}{l:List α}(h:dM R m sz a cap l):Rc R m sz a cap l:=
 let⟨css,h1,h2⟩:=h;⟨css,h1.all,h2⟩
section
variable {P:Program}{m:Mem}{t ty e:TypeId}{z:Value}{sz bytes:Nat}
theorem vz(hT:dE P t e z sz bytes)(g:Option Nat)(n cap:Nat)(cur:Array Value)(hg:∀b,g=some b->m.w.heap[b]?=some (.cells cur e (0,0)))(hcs:g≠none->cur.size=cap*sz)(hnil:g=none->cap=0)
 (a2:Option Addr) (k cap2:Nat) (ys:List Value) (hy:Sl m.now sz a2 k cap2 ys) (h1:∀u∈ys,u.oneCell'=true) (hroom:n+k<=cap):
 (Builtin.append_ #[t,t] ty #[.slice (fP g) n cap,.slice a2 k cap2]).run P m.w=
  .ok (.slice (fP g) (n+k) cap) (match g with|none=>m.w|some b=>match a2 with|none=>m.w|some _=>m.w.setRow b (cur.toList.take (n*sz)++ys++cur.toList.drop (n*sz+ys.length)).toArray):=by
 obtain⟨i,hi,hz,hs,hb⟩:=info_parts hT.info
 cases g with
 |none=>
  have hc:=hnil rfl
  have hk:k=0:=by omega
  have hn:n=0:=by omega
  subst hc hk hn
  cases a2 with
  |none=>simp[Builtin.append_,run_underlying hT.gH,sizeOf,typeInfo,hi,Builtin.lenOf,Builtin.firstCells,fP]
  |some ad=>simp[Builtin.append_,run_underlying hT.gH,sizeOf,typeInfo,hi,Builtin.lenOf,Builtin.firstCells,fP,loadCells,loadCellsFrom]
 |some b=>
  cases a2 with
  |none=>
   have hc:=hy.2.2.2.1 rfl
   have hk:k=0:=by have:=hy.2.1;omega
   subst hk
   simp[Builtin.append_,run_underlying hT.gH,sizeOf,typeInfo,hi,Builtin.lenOf,Builtin.firstCells,fP,storeCells]
   omega
  |some ad=>
   have:=run_append_room (P:=P) m.w t ty e i hT.gH hi b n cap cur (hg b rfl) ad k cap2 ys (by rw[hs];exact hy.1) (fun j u hu=>by
    obtain⟨b',o,ha,_,hc⟩:=hy.2.2.2.2 j u hu;cases ha;rw[Addr.add_mid];exact hc) h1 hroom (by rw[hs,hcs (by simp),hy.1,<- aN];exact Nat.mul_le_mul_right _ hroom)
   rw[hs]at this
   exact this
theorem tN(hT:dE P t e z sz bytes)(a:Option Addr)(n cap:Nat)(xs:List Value)(hx:Sl m sz a n cap xs)
 (a2:Option Addr) (k cap2:Nat) (ys:List Value) (hy:Sl m.now sz a2 k cap2 ys) (h1:∀u∈ys,u.oneCell'=true) (hlen:(n+k)*bytes<=140737488355328) (h63:n+k<=maxLen) (hg:cap<n+k):
 ∃cap' cur,(Builtin.append_ #[t,t] ty #[.slice a n cap,.slice a2 k cap2]).run P m.w=.ok (.slice (some ⟨m.w.heap.size,0,none⟩) (n+k) cap') (m.w.drew.alloc (.cells cur e (0,0)))/\
  cur.size=cap'*sz/\n+k<=cap'/\cap'<=maxLen/\cur.toList.take ((n+k)*sz)=xs++ys:=by
 obtain⟨i,hi,hz,hs,hb⟩:=info_parts hT.info
 have h63':n+k<=9223372036854775807:=by unfold maxLen at h63;omega
 have hsrc:Src P i.size t (.slice a2 k cap2) k ys m.w:=by
  rw[hs]
  cases a2 with
  |none=>
   have hc:=hy.2.2.2.1 rfl
   have hm:k=0:=by have:=hy.2.1;omega
   subst hc hm
   have hye:ys=[]:=bq (by simpa using hy.1)
   subst hye
   exact Src.ofNil m.w hT.gH 0
  |some ad=>
   exact Src.ofSlice m.w hT.gH ad k cap2 ys hy.1 (fun j u hu=>by
    obtain⟨b,o,ha,_,hc⟩:=hy.2.2.2.2 j u hu;cases ha;rw[Addr.add_mid];exact hc) h1
 have hold:(Builtin.firstCells i.size n (.slice a n cap)).run P m.w.drew=.ok xs.toArray m.w.drew:=by
  rw[hs]
  cases a with
  |none=>
   have hc:=hx.2.2.2.1 rfl
   have hm:n=0:=by have:=hx.2.1;omega
   subst hc hm
   have hye:xs=[]:=bq (by simpa using hx.1)
   subst hye
   exact run_firstCells_none m.w.drew sz 0 0 0
  |some ad=>
   exact run_firstCells_some m.w.drew sz n ad n cap xs hx.1 (fun j u hu=>by
    obtain⟨b,o,ha,_,hc⟩:=hx.2.2.2.2 j u hu;cases ha;rw[Addr.add_mid];exact hc)
 have hr:=run_append_grow_src (P:=P) m.w t t ty e i z hT.gH hi hz a n cap xs hold _ k ys hsrc hg (by omega) (growslice_fits hg (by rw[hb];exact hlen))
 have hge:=grownCap_ge m.w (n+k) cap e
 have hcm:=grownCap_le_maxLen m.w (n+k) cap e h63
 refine⟨_,_,hr,?_,hge,hcm,?_⟩
 . simp only[Array.size_append,List.size_toArray,ay,size_zeroCells,hT.zs,hx.1,hy.1,<- aN]
   congr 1
   omega
 . simp only[Array.toList_append]
   rw[show(n+k)*sz=(xs++ys).length by rw[ay,hx.1,hy.1,aN]]
   exact List.take_left
end
abbrev rowOf{α:Type}(T:TypeId)(sz:Nat)(g:Option Nat)(cap:Nat)(l:List α):bR:=.row g T (cap*sz) (l.length*sz)
section
variable {B:List Nat}{m0 m:Mem}{L:List bR}{α:Type}{R:Mem->α->List Value->Prop}{P:Program}{t ty e:TypeId}{z:Value}{sz bytes:Nat}
theorem nJ{css:List (List Value)}{l:List α}(hR:oY R sz)(h2:css.length=l.length)(h4:∀(i:Nat) (x:α) (cs:List Value),l[i]?=some x->css[i]?=some cs->cs.length=sz/\R m x cs):∀u∈css.flatten,u.oneCell'=true:=by
 intro u hu;obtain⟨cs,hcs,hu⟩:=List.mem_flatten.1 hu;obtain⟨i,hi⟩:=List.mem_iff_getElem?.1 hcs;have hil:i<css.length:=(List.getElem?_eq_some_iff.1 hi).1;exact hR.one (h4 i (l[i]'(by omega)) cs (by simp) hi).2 u hu
theorem vW{css dss:List (List Value)}{l l':List α}(h2:css.length=l.length)(h4:∀(i:Nat) (x:α) (cs:List Value),l[i]?=some x->css[i]?=some cs->cs.length=sz/\R m x cs)
 (k2:dss.length=l'.length) (k4:∀(i:Nat) (x:α) (cs:List Value),l'[i]?=some x->dss[i]?=some cs->cs.length=sz/\R m x cs):
 (css++dss).length=(l++l').length/\∀(i:Nat) (x:α) (cs:List Value),(l++l')[i]?=some x->(css++dss)[i]?=some cs->cs.length=sz/\R m x cs:=by
 refine⟨by simp[h2,k2],fun i x cs hx hc=>?_⟩
 by_cases hi:i<l.length
 . rw[List.getElem?_append_left hi]at hx
   rw[List.getElem?_append_left (by omega)]at hc
   exact h4 i x cs hx hc
 . rw[List.getElem?_append_right (by omega)]at hx
   rw[List.getElem?_append_right (by omega),h2]at hc
   exact k4 _ x cs hx hc
theorem OG(hR:oY R sz){b cap:Nat}{l l':List α}(hS:St B m0 m (rowOf e sz (some b) cap l::L))(hx:dM R m sz (fP (some b)) cap l){dss:List (List Value)}(k2:dss.length=l'.length)
 (k4:∀(i:Nat) (x:α) (cs:List Value),l'[i]?=some x->dss[i]?=some cs->cs.length=sz/\R m x cs) (hyl:dss.flatten.length=l'.length*sz) (hroom:l.length+l'.length<=cap) {cur:Array Value} (hcur:m.w.heap[b]?=some (.cells cur e (0,0))) (hcs:cur.size=cap*sz):
 ∃m':Mem,m'.w=m.w.setRow b (cur.toList.take (l.length*sz)++dss.flatten++cur.toList.drop (l.length*sz+dss.flatten.length)).toArray/\Le m m'/\St B m0 m' (rowOf e sz (some b) cap (l++l')::L)/\dM R m' sz (fP (some b)) cap (l++l'):=by
 obtain⟨css,h1,h2,h4⟩:=hx
 obtain⟨f2,f4⟩:=vW h2 h4 k2 k4
 have hll:(l++l').length=l.length+l'.length:=by simp
 have hap:=hS.ow.apart (rowOf e sz (some b) cap l) (by simp) b (by simp[rowOf,bR.row])
 have hxl:css.flatten.length=l.length*sz:=h1.1
 have htake:cur.toList.take (l.length*sz)=css.flatten:=by
  apply List.ext_getElem?;intro j;by_cases hj:j<l.length*sz
  . rw[List.getElem?_take,if_pos hj];have hjl:j<css.flatten.length:=by omega
    obtain⟨b',o,ha,_,hc⟩:=h1.2.2.2.2 j _ (List.getElem?_eq_getElem hjl);cases ha;rw[cell_of_row _ _ _ _ _ _ hcur,aL]at hc;rw[List.getElem?_eq_getElem hjl];simpa using hc
  . rw[List.getElem?_take,if_neg hj,List.getElem?_eq_none (by omega)]
 have hsum:l.length*sz+l'.length*sz<=cap*sz:=by rw[<- aN];exact Nat.mul_le_mul_right _ hroom
 have hclen:cur.toList.length=cap*sz:=by simpa using hcs
 generalize hnew:(cur.toList.take (l.length*sz)++dss.flatten++cur.toList.drop (l.length*sz+dss.flatten.length)).toArray=new
 have hnl:new.size=cap*sz:=by rw[<- hnew];simp only[List.size_toArray,ay,aM,bh];omega
 have hnt:new.toList.take ((l.length+l'.length)*sz)=css.flatten++dss.flatten:=by
  rw[<- hnew,htake];simp only[];rw[show(l.length+l'.length)*sz=(css.flatten++dss.flatten).length by rw[ay,hxl,hyl,aN]];exact List.take_left
 have hb':=setRow_heap m.w b cur new e (0,0) hcur
 have hlt:=mq hcur
 let X:Nat->Nat->Prop:=fun c o=>c=b/\o<(l++l').length*sz
 refine⟨⟨m.w.setRow b new,fun c o=>m.ok c o\/X c o⟩,rfl,?_,?_,?_⟩
 ·
  refine⟨rfl,rfl,rfl,by simp,fun c o hc=>⟨⟨.inl hc,by simpa using hc.2⟩,?_⟩⟩
  show(m.w.setRow b new).cell? _=_
  by_cases hcb:c=b
  . subst hcb
    have hlo:o<l.length*sz:=by
     refine bm fun hn=>?_
     exact hap o (by show l.length*sz<=o;omega) hc
    rw[cell_of_row _ _ _ _ _ _ hb',cell_of_row _ _ _ _ _ _ hcur]
    have e1:new.toList[o]?=(css.flatten)[o]?:=by
     have:(new.toList.take ((l.length+l'.length)*sz))[o]?=(css.flatten++dss.flatten)[o]?:=by rw[hnt]
     rw[List.getElem?_take,if_pos (by rw[aN];omega),List.getElem?_append_left (by omega)]at this;exact this
    have e2:cur.toList[o]?=(css.flatten)[o]?:=by
     rw[<- htake,List.getElem?_take,if_pos hlo]
    rw[<- Array.getElem?_toList,<- Array.getElem?_toList,e1,e2]
  . unfold World.cell?
    rw[setRow_other m.w b c new hcb]
 ·
  have k:St (bK [rowOf e sz (some b) cap l]) m ⟨m.w.setRow b new,fun c o=>m.ok c o\/X c o⟩ [rowOf e sz (some b) cap (l++l')]:=by
   refine⟨?_,fun c hc hn=>setRow_other m.w b c new (by simpa[rowOf,bR.row]using hn),fun c o hc=>?_,⟨by simp[rowOf,bR.row],fun x hx=>?_,fun x hx c hc o ho hm=>?_⟩,fun c hc=>?_⟩
   . refine⟨rfl,rfl,rfl,by simp,fun c o hc=>⟨⟨.inl hc,by simpa using hc.2⟩,?_⟩⟩;show(m.w.setRow b new).cell? _=_;by_cases hcb:c=b
     . subst hcb;have hlo:o<l.length*sz:=by
        refine bm fun hn=>?_
        exact hap o (by show l.length*sz<=o;omega) hc
       rw[cell_of_row _ _ _ _ _ _ hb',cell_of_row _ _ _ _ _ _ hcur];have e1:new.toList[o]?=(css.flatten)[o]?:=by
        have:(new.toList.take ((l.length+l'.length)*sz))[o]?=(css.flatten++dss.flatten)[o]?:=by rw[hnt]
        rw[List.getElem?_take,if_pos (by rw[aN];omega),List.getElem?_append_left (by omega)]at this;exact this
       have e2:cur.toList[o]?=(css.flatten)[o]?:=by
        rw[<- htake,List.getElem?_take,if_pos hlo]
       rw[<- Array.getElem?_toList,<- Array.getElem?_toList,e1,e2]
     . unfold World.cell?;rw[setRow_other m.w b c new hcb]
   . rcases hc.1 with h|h
     . exact .inl h
     . exact .inr (.inr (by simp[rowOf,bR.row,h.1]))
   . simp at hx;subst hx;intro c hc;cases hc;exact⟨new,hb',hnl⟩
   . simp at hx;subst hx;simp[rowOf,bR.row]at hc;subst hc;have ho':(l++l').length*sz<=o:=ho;rcases hm.1 with h|h
     . exact hap o (by show l.length*sz<=o;rw[hll,aN]at ho';omega) h
     . have h2:o<(l++l').length*sz:=h.2;omega
   . simp[rowOf,bR.row]at hc;subst hc;exact .inl (by simp[rowOf,bR.row])
  exact St.frame (L:=[rowOf e sz (some b) cap l]) hS k
 ·
  refine⟨css++dss,⟨?_,by simpa using hroom,h1.2.2.1,(fun h=>by cases h),fun j v hv=>⟨b,0,rfl,⟨.inr ⟨rfl,?_⟩,by simpa using hlt⟩,?_⟩⟩,f2,fun i x cs hx hc=>⟨(f4 i x cs hx hc).1,?_⟩⟩
  . simp only[bn,ay,hxl,hyl,aN]
  . have:j<(css++dss).flatten.length:=(List.getElem?_eq_some_iff.1 hv).1
    simp only[bn,ay]at this
    rw[hll,aN];omega
  . rw[cell_of_row _ _ _ _ _ _ hb',aL,<- Array.getElem?_toList]
    have hjl:j<(css++dss).flatten.length:=(List.getElem?_eq_some_iff.1 hv).1
    simp only[bn,ay]at hjl
    have:(new.toList.take ((l.length+l'.length)*sz))[j]?=(css.flatten++dss.flatten)[j]?:=by rw[hnt]
    rw[List.getElem?_take,if_pos (by rw[aN];omega)]at this
    rw[this,<- bn];exact hv
  . refine hR.mono (f4 i x cs hx hc).2 ?_
    refine⟨rfl,rfl,rfl,by simp,fun c o hc=>⟨⟨.inl hc,by simpa using hc.2⟩,?_⟩⟩
    show(m.w.setRow b new).cell? _=_
    by_cases hcb:c=b
    . subst hcb
      have hlo:o<l.length*sz:=by
       refine bm fun hn=>?_
       exact hap o (by show l.length*sz<=o;omega) hc
      rw[cell_of_row _ _ _ _ _ _ hb',cell_of_row _ _ _ _ _ _ hcur]
      have e1:new.toList[o]?=(css.flatten)[o]?:=by
       have:(new.toList.take ((l.length+l'.length)*sz))[o]?=(css.flatten++dss.flatten)[o]?:=by rw[hnt]
       rw[List.getElem?_take,if_pos (by rw[aN];omega),List.getElem?_append_left (by omega)]at this;exact this
      have e2:cur.toList[o]?=(css.flatten)[o]?:=by
       rw[<- htake,List.getElem?_take,if_pos hlo]
      rw[<- Array.getElem?_toList,<- Array.getElem?_toList,e1,e2]
    . unfold World.cell?
      rw[setRow_other m.w b c new hcb]
theorem Ci(hT:dE P t e z sz bytes)(hR:oY R sz){g:Option Nat}{cap:Nat}{l l':List α}(hS:St B m0 m (rowOf e sz g cap l::L))(hx:dM R m sz (fP g) cap l)
 {a2:Option Addr} {cap2:Nat} (hy:Rc R m sz a2 cap2 l') (hroom:l.length+l'.length<=cap):
 ∃m',(Builtin.append_ #[t,t] ty #[.slice (fP g) l.length cap,.slice a2 l'.length cap2]).run P m.w=.ok (.slice (fP g) (l++l').length cap) m'.w/\
  Le m m'/\St B m0 m' (rowOf e sz g cap (l++l')::L)/\dM R m' sz (fP g) cap (l++l'):=by
 obtain⟨css,h1,h2,h4⟩:=hx
 obtain⟨dss,k1,k2,k4⟩:=hy
 have hone:=nJ hR k2 k4
 cases g with
 |none=>
  have hc:=h1.2.2.2.1 rfl
  have e1:l=[]:=bq (by omega)
  have e2:l'=[]:=bq (by omega)
  subst e1 e2 hc
  have:=vz (P:=P) (ty:=ty) hT none 0 0 #[] (fun b h=>by cases h) (fun h=>absurd rfl h) (fun _=>rfl) a2 0 cap2 _ k1 hone (by simp)
  exact⟨m,by simpa using this,Le.refl m,by simpa using hS,⟨css,h1,h2,h4⟩⟩
 |some b=>
  have hent:=hS.ow.ok (rowOf e sz (some b) cap l) (by simp)
  obtain⟨cur,hcur,hcs⟩:=hent b rfl
  have hrun:=vz (P:=P) (ty:=ty) hT (some b) l.length cap cur (fun c h=>by cases h;exact hcur) (fun _=>hcs) (fun h=>by cases h) a2 l'.length cap2 _ k1 hone hroom
  cases a2 with
  |none=>
   have hc:=k1.2.2.2.1 rfl
   have e2:l'=[]:=bq (by have:=k1.2.1;omega)
   subst e2
   have hE:dM R m sz (fP (some b)) cap (l++[]):=by rw[aW];exact⟨css,h1,h2,h4⟩
   exact⟨m,by simpa using hrun,Le.refl m,by simpa using hS,hE⟩
  |some ad=>
   obtain⟨m',r1,r2,r3,r4⟩:=OG hR hS ⟨css,h1,h2,h4⟩ k2 k4 k1.1 hroom hcur hcs
   exact⟨m',by rw[r1];simpa using hrun,r2,r3,r4⟩
theorem PF(hT:dE P t e z sz bytes)(hR:oY R sz){g:Option Nat}{cap:Nat}{l l':List α}(hS:St B m0 m (rowOf e sz g cap l::L))(hx:dM R m sz (fP g) cap l)
 {a2:Option Addr} {cap2:Nat} (hy:dM R m sz a2 cap2 l') (hroom:l.length+l'.length<=cap):
 ∃m',(Builtin.append_ #[t,t] ty #[.slice (fP g) l.length cap,.slice a2 l'.length cap2]).run P m.w=.ok (.slice (fP g) (l++l').length cap) m'.w/\
  Le m m'/\St B m0 m' (rowOf e sz g cap (l++l')::L)/\dM R m' sz (fP g) cap (l++l'):=Ci hT hR hS hx hy.src hroom
theorem Cj(hT:dE P t e z sz bytes)(hR:oY R sz){g:Option Nat}{cap:Nat}{l l':List α}(hS:St B m0 m (rowOf e sz g cap l::L))(hx:dM R m sz (fP g) cap l)
 {a2:Option Addr} {cap2:Nat} (hy:dM R m sz a2 cap2 l') (hlen:(l.length+l'.length)*bytes<=140737488355328) (h63:l.length+l'.length<=maxLen):
 ∃g' cap' m',(Builtin.append_ #[t,t] ty #[.slice (fP g) l.length cap,.slice a2 l'.length cap2]).run P m.w=.ok (.slice (fP g') (l++l').length cap') m'.w/\
  Le m m'/\St B m0 m' (rowOf e sz g' cap' (l++l')::L)/\dM R m' sz (fP g') cap' (l++l'):=by
 obtain⟨css,h1,h2,h4⟩:=hx
 obtain⟨dss,k1,k2,k4⟩:=hy
 have hone:=nJ hR k2 k4
 obtain⟨f2,f4⟩:=vW h2 h4 k2 k4
 have hll:(l++l').length=l.length+l'.length:=by simp
 have hcl:=dM.lens f2 f4
 by_cases hroom:l.length+l'.length<=cap
 . obtain⟨m',r1,r2,r3,r4⟩:=PF (ty:=ty) hT hR hS ⟨css,h1,h2,h4⟩ ⟨dss,k1,k2,k4⟩ hroom
   exact⟨g,cap,m',r1,r2,r3,r4⟩
 ·
  obtain⟨cap',cur,hrun,hcs,hge,hcm,htake⟩:=tN (P:=P) (ty:=ty) hT (fP g) l.length cap _ h1 a2 l'.length cap2 _ k1.all hone hlen h63 (by omega)
  have hS1:=hS.drop
  have hg:Below m.w.heap.size m.w (m.w.drew.alloc (.cells cur e (0,0))):=((Below.refl _ _).drew).alloc (Nat.le_refl _) _
  have hb':(m.w.drew.alloc (.cells cur e (0,0))).heap[m.w.heap.size]?=some (.cells cur e (0,0)):=heap_alloc_new m.w.drew _
  let X:Nat->Nat->Prop:=fun c o=>c=m.w.heap.size/\o<(l++l').length*sz
  have hle:Le m ⟨m.w.drew.alloc (.cells cur e (0,0)),fun c o=>m.ok c o\/X c o⟩:=
   ⟨rfl,rfl,rfl,Below.size hg,fun c o hc=>⟨⟨.inl hc,Nat.lt_of_lt_of_le hc.2 (Below.size hg)⟩,uE hg hc.2⟩⟩
  have k:St [] m ⟨m.w.drew.alloc (.cells cur e (0,0)),fun c o=>m.ok c o\/X c o⟩ [rowOf e sz (some m.w.heap.size) cap' (l++l')]:=by
   refine⟨hle,fun c hc _=>Below.block hg c hc,fun c o hc=>?_,⟨by simp[rowOf,bR.row],fun x hx=>?_,fun x hx c hc o ho hm=>?_⟩,fun c hc=>?_⟩
   . rcases hc.1 with h|h
     . exact .inl h
     . exact .inr (.inl (by rw[h.1];exact Nat.le_refl _))
   . simp at hx;subst hx;intro c hc;cases hc;exact⟨cur,hb',hcs⟩
   . simp at hx;subst hx;simp[rowOf,bR.row]at hc;subst hc;have ho':(l++l').length*sz<=o:=ho;rcases hm.1 with h|h
     . exact absurd h.2 (by simp)
     . have h2:o<(l++l').length*sz:=h.2;omega
   . simp[rowOf,bR.row]at hc;subst hc;exact .inr (Nat.le_refl _)
  refine⟨some m.w.heap.size,cap',_,by simpa using hrun,hle,hS1.call k,?_⟩
  refine⟨css++dss,⟨?_,by simpa using hge,hcm,(fun h=>by cases h),fun j v hv=>⟨m.w.heap.size,0,rfl,⟨.inr ⟨rfl,?_⟩,by simp⟩,?_⟩⟩,f2,fun i x cs hx hc=>⟨(f4 i x cs hx hc).1,hR.mono (f4 i x cs hx hc).2 hle⟩⟩
  . simp only[bn,ay,h1.1,k1.1,aN]
  . have:j<(css++dss).flatten.length:=(List.getElem?_eq_some_iff.1 hv).1
    simp only[bn,ay,h1.1,k1.1]at this
    rw[hll,aN];omega
  . show(m.w.drew.alloc (.cells cur e (0,0))).cell? _=_
    rw[cell_of_row _ _ _ _ _ _ hb',aL,<- Array.getElem?_toList]
    have hjl:j<(css++dss).flatten.length:=(List.getElem?_eq_some_iff.1 hv).1
    simp only[bn,ay,h1.1,k1.1]at hjl
    have:(cur.toList.take ((l.length+l'.length)*sz))[j]?=(css.flatten++dss.flatten)[j]?:=by rw[htake]
    rw[List.getElem?_take,if_pos (by rw[aN];omega)]at this
    rw[this,<- bn];exact hv
end
end
end Go.Proofs.YtjfkdglgecgjfaaGreat
