/- Part of the proof. -/
import Derived.Test.YtekpafdhgkocaaaGreatZPure
import Derived.Test.YtekpafdhgkocaaaGreatZEG
import Derived.Test.YtekpafdhgkocaaaGreatZPQ0
import Derived.KernelRfl
namespace Go.Proofs.YtekpafdhgkocaaaGreat
open IntKind(i64)
open G
namespace G
def eh(c:G.Command):Int:=if c.kind=1 then c.len else(c.data.length:Int)
def dK(c:G.Command):Int:=c.to+eh c
theorem tB(c:G.Command):G.fG c=some ⟨c.to,eh c⟩:=by unfold G.fG G.tF eh;split<;>rfl
theorem FE(c:G.Command):G.kj c=some (eh c):=by unfold G.kj eh;split<;>rfl
theorem vF(c:G.Command):G.gj c=some ⟨c.to,eh c⟩:=by unfold G.gj;rw[FE];rfl
def K6(o n:Int):Bool:=decide (0<=o/\0<=n/\o+n<=4611686018427387903)
theorem xg{o n:Int}:K6 o n=true↔0<=o/\0<=n/\o+n<=4611686018427387903:=by unfold K6;simp
theorem Lj(e:G.bR):G.lI e=some (K6 e.off e.len):=by
 have hm:mA e.off e.len≥0↔0<=e.off/\0<=e.len:=by unfold mA;split<;>omega
 unfold G.lI K6
 by_cases h:0<=e.off/\0<=e.len
 . rw[if_pos (hm.2 h)]
   split
   . rw[fB (by omega) (by omega)];congr 1;rw[bg];omega
   . congr 1;symm;rw[bh];omega
 . rw[if_neg (fun k=>h (hm.1 k))]
   congr 1;symm;rw[bh]
   omega
theorem P6(e:G.bR):G.nw e=some (K6 e.off e.len):=by
 unfold G.nw K6 G.eY
 simp only[ae]
 split
 . split
   . split
     . rw[fB (by omega) (by omega)];congr 1;rw[bg];omega
     . congr 1;symm;rw[bh];omega
   . congr 1;symm;rw[bh];omega
 . congr 1;symm;rw[bh];omega
def Ef(c:G.Command):Int:=
 if c.kind≠1/\c.kind≠2 then 11 else if eh c=0 then 7 else if K6 c.to (eh c)=false then 2 else
  if c.kind=1 then(if c.data.length=0/\K6 c.from_ c.len=true then 0 else 2)else if c.from_=0/\c.len=0 then 0 else 2
theorem RN(c:G.Command):G.xp c=some (Ef c):=by
 have e1:G.tF c=some ⟨⟨c.to,eh c⟩⟩:=by unfold G.tF eh;split<;>rfl
 unfold G.xp Ef
 simp only[e1,Lj,ae]
 by_cases k1:c.kind=1
 . by_cases t0:eh c=0
   . simp[k1,t0]
   . cases hv:K6 c.to (eh c)
     . simp[k1,t0,hv]
     . by_cases d0:c.data.length=0
       . cases hw:K6 c.from_ c.len<;>simp[k1,t0,hv,d0,hw]
       . have:¬ (c.data.length:Int)=0:=by omega
         simp[k1,t0,hv,d0,this]
 . by_cases k2:c.kind=2
   . by_cases t0:eh c=0
     . simp[k2,t0]
     . cases hv:K6 c.to (eh c)
       . simp[k2,t0,hv]
       . by_cases f0:c.from_=0
         . by_cases l0:c.len=0<;>simp[k2,t0,hv,f0,l0]
         . simp[k2,t0,hv,f0]
   . simp[k1,k2]
theorem PY(c:G.Command):G.qt c=some (Ef c):=by
 unfold G.qt Ef G.mF
 simp only[vF,FE,P6,ae]
 by_cases k1:c.kind=1
 . by_cases t0:eh c=0
   . simp[k1,t0]
   . cases hv:K6 c.to (eh c)
     . simp[k1,t0,hv]
     . by_cases d0:c.data.length=0
       . have:¬ (c.data.length:Int)>0:=by omega
         cases hw:K6 c.from_ c.len<;>simp[k1,t0,hv,d0,hw]
       . have:0<c.data.length:=by omega
         simp[k1,t0,hv,d0,this]
 . by_cases k2:c.kind=2
   . by_cases t0:eh c=0
     . simp[k2,t0]
     . cases hv:K6 c.to (eh c)
       . simp[k2,t0,hv]
       . by_cases f0:c.from_=0
         . by_cases l0:c.len=0<;>simp[k2,t0,hv,f0,l0]
         . simp[k2,t0,hv,f0]
   . simp[k1,k2]
theorem A0{c:G.Command}(h:Ef c=0):0<=c.to/\1<=eh c/\dK c<=4611686018427387903/\(c.kind=1->0<=c.from_/\0<=c.len/\c.from_+c.len<=4611686018427387903/\c.data=[])/\(c.kind≠1->c.kind=2/\c.from_=0/\c.len=0):=by
 unfold Ef at h
 split at h
 . omega
 . rename_i hk
   split at h
   . omega
   . rename_i ht
     split at h
     . omega
     . rename_i hv
       have hv':=xg.1 (by simpa using hv)
       refine⟨hv'.1,by omega,hv'.2.2,fun k1=>?_,fun k1=>?_⟩
       . rw[if_pos k1]at h
         split at h
         . rename_i hd
           have:=xg.1 hd.2
           exact⟨this.1,this.2.1,this.2.2,bM hd.1⟩
         . omega
       . rw[if_neg k1]at h
         split at h
         . rename_i hd
           exact⟨by omega,hd.1,hd.2⟩
         . omega
def MT(d:G.Delta)(c:G.Command):Int:=if Ef c≠0 then Ef c else if c.kind=1/\c.from_+c.len>d.dC then 5 else if dK c>d.b5 then 6 else 0
theorem Jy(d:G.Delta)(c:G.Command):G.yB d c=some (MT d c):=by
 unfold G.yB MT G.cW G.dB
 simp only[RN,tB,ae]
 by_cases h:Ef c=0
 . have hz:=A0 h
   simp only[h,ne_eq,not_true_eq_false,if_false]
   have e1:i64.wrap (c.to+eh c)=dK c:=fB (by unfold dK at hz;omega) (by unfold dK at hz;omega)
   by_cases k1:c.kind=1
   . have h2:=hz.2.2.2.1 k1
     have e2:i64.wrap (c.from_+c.len)=c.from_+c.len:=fB (by omega) (by omega)
     by_cases h3:c.from_+c.len>d.dC<;>by_cases h4:dK c>d.b5<;>simp[k1,h3,h4,e1,e2]
   . by_cases h4:dK c>d.b5<;>simp[k1,h4,e1]
 . simp only[h,ne_eq,not_false_eq_true,if_true]
theorem ze(d:G.Delta)(c:G.Command):G.po d c=some (MT d c):=by
 unfold G.po MT
 simp only[PY,FE,ae]
 by_cases h:Ef c=0
 . have hz:=A0 h
   simp only[h,ne_eq,not_true_eq_false,if_false]
   have e1:i64.wrap (c.to+eh c)=dK c:=fB (by unfold dK at hz;omega) (by unfold dK at hz;omega)
   by_cases k1:c.kind=1
   . have h2:=hz.2.2.2.1 k1
     have e2:i64.wrap (c.from_+c.len)=c.from_+c.len:=fB (by omega) (by omega)
     by_cases h3:c.from_+c.len>d.dC<;>by_cases h4:dK c>d.b5<;>simp[k1,h3,h4,e1,e2]
   . by_cases h4:dK c>d.b5<;>simp[k1,h4,e1]
 . simp only[h,ne_eq,not_false_eq_true,if_true]
structure Good(d:G.Delta)(c:G.Command):Prop where
 DL:0<=c.to
 ot:1<=eh c
 fits:dK c<=d.b5
 max:dK c<=4611686018427387903
 copy:c.kind=1->0<=c.from_/\0<=c.len/\c.from_+c.len<=d.dC/\c.from_+c.len<=4611686018427387903/\c.data=[]
 lit:c.kind≠1->c.kind=2/\c.from_=0/\c.len=0
theorem wh{d:G.Delta}{c:G.Command}:MT d c=0↔Good d c:=by
 constructor
 . intro h
   unfold MT at h
   split at h
   . rename_i h1;exact absurd h h1
   . rename_i h1
     have hz:=A0 (by simpa using h1)
     split at h
     . omega
     . rename_i h2
       split at h
       . omega
       . rename_i h3
         exact⟨hz.1,hz.2.1,by omega,hz.2.2.1,fun k=>by have:=hz.2.2.2.1 k;exact⟨this.1,this.2.1,by have:=fun q=>h2 ⟨k,q⟩;omega,this.2.2.1,this.2.2.2⟩,hz.2.2.2.2⟩
 . intro h
   have hc:Ef c=0:=by
    unfold Ef
    have hk:¬ (c.kind≠1/\c.kind≠2):=fun k=>k.2 (h.lit k.1).1
    have:=h.DL;have:=h.ot;have:=h.max
    rw[if_neg hk,if_neg (by omega),if_neg (by rw[xg.2 ⟨h.DL,by omega,h.max⟩];simp)]
    by_cases k1:c.kind=1
    . have hq:=h.copy k1
      rw[if_pos k1,if_pos ⟨by rw[hq.2.2.2.2];rfl,xg.2 ⟨hq.1,hq.2.1,hq.2.2.2.1⟩⟩]
    . have hq:=h.lit k1
      rw[if_neg k1,if_pos ⟨hq.2.1,hq.2.2⟩]
   unfold MT
   rw[if_neg (by simpa using hc),if_neg (fun k=>by have:=(h.copy k.1).2.2.1;omega),if_neg (by have:=h.fits;omega)]
theorem Um{d:G.Delta}{c:G.Command}:MT d c≠0↔¬ Good d c:=not_congr wh
def ov(a b:G.Command):Bool:=decide (a.to<dK b/\b.to<dK a)
theorem KL(a b:G.Command):ov a b=ov b a:=by unfold ov;rw[bg];omega
theorem Gj{d:G.Delta}{a b:G.Command}(ha:Good d a)(hb:Good d b):∃ e,G.eW ⟨a.to,eh a⟩ ⟨b.to,eh b⟩=some (e,ov a b):=by
 have:=ha.DL;have:=hb.DL;have:=ha.max;have:=hb.max;have:=ha.ot;have:=hb.ot
 unfold G.eW G.dB G.pL
 simp only[ae]
 unfold dK at*
 rw[fB (x:=a.to+eh a) (by omega) (by omega),fB (x:=b.to+eh b) (by omega) (by omega)]
 have hx:mA (a.to+eh a) (b.to+eh b)-imax a.to b.to<=4611686018427387903/\ -4611686018427387903<=mA (a.to+eh a) (b.to+eh b)-imax a.to b.to/\(mA (a.to+eh a) (b.to+eh b)-imax a.to b.to<1↔¬ (a.to<b.to+eh b/\b.to<a.to+eh a)):=by
  unfold mA imax;split<;>split<;>omega
 rw[fB (by omega) (by omega)]
 unfold ov dK
 split
 . rename_i h
   exact⟨_,by rw[decide_eq_false (hx.2.2.1 h)];rfl⟩
 . rename_i h
   exact⟨_,by rw[aF (Classical.not_not.1 (fun k=>h (hx.2.2.2 k)))];rfl⟩
theorem E1{d:G.Delta}{a b:G.Command}(ha:Good d a)(hb:Good d b):∃ e,G.ju ⟨a.to,eh a⟩ ⟨b.to,eh b⟩=some e/\decide (e.len>0)=ov a b:=by
 have:=ha.DL;have:=hb.DL;have:=ha.max;have:=hb.max;have:=ha.ot;have:=hb.ot
 unfold G.ju
 simp only
 unfold dK at*
 rw[fB (x:=a.to+eh a) (by omega) (by omega),fB (x:=b.to+eh b) (by omega) (by omega)]
 have hx:mA (a.to+eh a) (b.to+eh b)-imax a.to b.to<=4611686018427387903/\ -4611686018427387903<=mA (a.to+eh a) (b.to+eh b)-imax a.to b.to/\(imax a.to b.to≥mA (a.to+eh a) (b.to+eh b)↔¬ (a.to<b.to+eh b/\b.to<a.to+eh a)):=by
  unfold mA imax;split<;>split<;>omega
 unfold ov dK
 split
 . rename_i h
   exact⟨_,rfl,by rw[decide_eq_false (hx.2.2.1 h)];rfl⟩
 . rename_i h
   refine⟨_,rfl,?_⟩
   rw[fB (by omega) (by omega),bg]
   constructor
   . intro _;exact Classical.not_not.1 (fun k=>h (hx.2.2.2 k))
   . intro _;show mA (a.to+eh a) (b.to+eh b)-imax a.to b.to>0;omega
abbrev cat(l:List G.Command)(i:Nat):G.Command:=l.getD i default
theorem bT{l:List G.Command}{i:Nat}(h:i<l.length):cat l i=l[i]:=by simp[cat,h]
def Mv(l:List G.Command)(i:Nat):Bool:=(l.take i).any fun c=>ov (cat l i) c
end G
end Go.Proofs.YtekpafdhgkocaaaGreat
namespace Go.Proofs.YtekpafdhgkocaaaGreat
open IntKind(i64)
open G
namespace G
def Ix(l:List G.Command)(x:Int):Prop:=0<=x/\x<l.length
def key(l:List G.Command)(x:Int):Int:=(l.getD x.toNat default).to
theorem xo{l:List G.Command}{x y:Int}(hx:Ix l x)(hy:Ix l y):∃ c,G.nr x y l=some c/\(c<0↔key l x<key l y):=by
 unfold G.nr G.kX G.ij key
 obtain⟨h1,h2⟩:=hx
 obtain⟨h3,h4⟩:=hy
 rw[tL (k:=x.toNat) default (by omega) (by omega),tL (k:=y.toNat) default (by omega) (by omega)]
 simp only[ae,bne_self_eq_false,aJ,if_false]
 generalize (l.getD x.toNat default).to=p
 generalize (l.getD y.toNat default).to=q
 split
 . exact⟨_,rfl,by omega⟩
 . split
   . exact⟨_,rfl,by omega⟩
   . exact⟨_,rfl,by omega⟩
def sw(ys:List Int)(i j:Nat):List Int:=(ys.set i (ys.getD j 0)).set j (ys.getD i 0)
theorem Dh(ys:List Int)(i p:Nat)(v:Int):(ys.set i v).getD p 0=if p=i/\i<ys.length then v else ys.getD p 0:=by
 simp only[List.getD_eq_getElem?_getD,List.getElem?_set]
 by_cases h:i=p
 . subst h
   by_cases h2:i<ys.length<;>simp[h2]
 . rw[if_neg h,if_neg (fun k=>h k.1.symm)]
theorem ES{ys:List Int}{i j:Nat}(hi:i<ys.length)(hj:j<ys.length)(p:Nat):(sw ys i j).getD p 0=if p=j then ys.getD i 0 else if p=i then ys.getD j 0 else ys.getD p 0:=by
 unfold sw
 rw[Dh,Dh]
 simp only[bJ]
 by_cases h1:p=j
 . rw[if_pos ⟨h1,hj⟩,if_pos h1]
 . rw[if_neg (fun k=>h1 k.1),if_neg h1]
   by_cases h2:p=i
   . rw[if_pos ⟨h2,hi⟩,if_pos h2]
   . rw[if_neg (fun k=>h2 k.1),if_neg h2]
theorem F7{ys:List Int}{i j:Nat}(hi:i<ys.length)(hj:j<ys.length):(sw ys i j).Perm ys:=by
 unfold sw
 have e1:ys.getD j 0=ys[j]:=by simp[hj]
 have e2:ys.getD i 0=ys[i]:=by simp[hi]
 rw[e1,e2]
 exact List.set_set_perm hi hj
structure Pm(xs ys:List Int)(lo hi:Nat):Prop where
 perm:ys.Perm xs
 out:∀ p,p<lo\/hi<=p->ys.getD p 0=xs.getD p 0
theorem Pm.refl(xs:List Int)(lo hi:Nat):Pm xs xs lo hi:=⟨.refl _,fun _ _=>rfl⟩
theorem Pm.trans{xs ys zs:List Int}{lo hi:Nat}(h:Pm xs ys lo hi)(k:Pm ys zs lo hi):Pm xs zs lo hi:=⟨k.perm.trans h.perm,fun p hp=>(k.out p hp).trans (h.out p hp)⟩
theorem Pm.mono{xs ys:List Int}{lo hi lo' hi':Nat}(h:Pm xs ys lo hi)(h1:lo'<=lo)(h2:hi<=hi'):Pm xs ys lo' hi':=⟨h.perm,fun p hp=>h.out p (by omega)⟩
theorem Pm.len{xs ys:List Int}{lo hi:Nat}(h:Pm xs ys lo hi):ys.length=xs.length:=h.perm.length_eq
theorem Pm.sw{xs ys:List Int}{lo hi i j:Nat}(h:Pm xs ys lo hi)(hi1:lo<=i/\i<hi)(hj1:lo<=j/\j<hi)(hl:hi<=xs.length):Pm xs (sw ys i j) lo hi:=by
 have hlen:=h.len
 refine⟨(F7 (by omega) (by omega)).trans h.perm,fun p hp=>?_⟩
 rw[ES (by omega) (by omega),if_neg (by omega),if_neg (by omega)]
 exact h.out p hp
def uN(l:List G.Command)(ys:List Int):Prop:=∀ x∈ys,Ix l x
theorem Pm.all{l:List G.Command}{xs ys:List Int}{lo hi:Nat}(h:Pm xs ys lo hi)(ha:uN l xs):uN l ys:=fun x hx=>ha x (h.perm.mem_iff.1 hx)
theorem uN.get{l:List G.Command}{ys:List Int}(h:uN l ys){p:Nat}(hp:p<ys.length):Ix l (ys.getD p 0):=by
 have:ys.getD p 0=ys[p]:=by simp[hp]
 rw[this];exact h _ (az hp)
def sJ(l:List G.Command)(ys:List Int)(lo hi:Nat):Prop:=∀ p q,lo<=p->p<q->q<hi->key l (ys.getD p 0)<=key l (ys.getD q 0)
theorem sJ.sS{l:List G.Command}{xs ys:List Int}{lo hi a b:Nat}(h:sJ l xs lo hi)(hp:Pm xs ys a b)(hd:hi<=a\/b<=lo):sJ l ys lo hi:=fun p q h1 h2 h3=>by
 rw[hp.out p (by omega),hp.out q (by omega)];exact h p q h1 h2 h3
def Qb:Nat:=1125899906842624
theorem rO:Qb=1125899906842624:=rfl
section
variable {l:List G.Command}
theorem QA{a i:Nat}{ys:List Int}{w:Int×List Int}(hw:w.1=(i:Int))(hall:uN l ys)(hi:i<ys.length)(ha:a<=i)(hb:ys.length<=Qb)(hs:sJ l ys a i):
 ∃ zs,Iter (G.cG (a:Int) l w) ((i:Int),ys)=some (.inl (((i+1:Nat):Int),zs))/\Pm ys zs a (i+1)/\sJ l zs a (i+1):=by
 rw[rO]at hb
 obtain⟨r,hr,zs,rfl,h1,h2⟩:=cu (f:=G.cG (a:Int) l w)
  (fun k s=>∃ (j:Nat) (zs:List Int),s=((j:Int),zs)/\k=j/\a<=j/\j<=i/\Pm ys zs a (i+1)/\∀ p q,a<=p->p<q->q<=i->q≠j->key l (zs.getD p 0)<=key l (zs.getD q 0))
  (fun r=>∃ zs,r= .inl (((i+1:Nat):Int),zs)/\Pm ys zs a (i+1)/\sJ l zs a (i+1)) (by
  rintro k s ⟨j,zs,rfl,hkj,hj1,hj2,hp,ho⟩
  have hlen:=hp.len
  have hal:=hp.all hall
  unfold G.cG
  have done:(∀ p,a<=p->p<j->key l (zs.getD p 0)<=key l (zs.getD j 0))->sJ l zs a (i+1):=fun hd p q h1 h2 h3=>by
   by_cases hq:q=j
   . subst hq;exact hd p h1 h2
   . exact ho p q h1 h2 (by omega) hq
  by_cases hja:j>a
  . have hj':i64.wrap ((j:Int)-1)=((j-1:Nat):Int):=by rw[fB (by omega) (by omega)];omega
    obtain⟨c,hc,hcl⟩:=xo (l:=l) (hal.get (p:=j) (by omega)) (hal.get (p:=j-1) (by omega))
    rw[if_pos (show(j:Int)>(a:Int)by omega),hj',eZ (0:Int) (show j<zs.length by omega),eZ (0:Int) (show j-1<zs.length by omega)]
    simp only[ae,hc]
    by_cases hlt:c<0
    . left
      rw[if_pos (by simpa using hlt)]
      obtain⟨x,hx⟩:=uk (l:=zs.set j (zs.getD (j-1) 0)) (i:=((j-1:Nat):Int)) (k:=j-1) rfl (by simp;omega)
      simp only[aK,hx,ae]
      refine⟨j-1,_,rfl,by omega,j-1,sw zs j (j-1),rfl,rfl,by omega,by omega,hp.sw (by omega) (by omega) (by omega),fun p q h1 h2 h3 h4=>?_⟩
      rw[ES (by omega) (by omega),ES (by omega) (by omega)]
      have hk:=hcl.1 hlt
      by_cases e1:p=j-1
      . rw[if_pos e1]
        by_cases e2:q=j
        . rw[if_neg (by omega),if_pos e2];omega
        . rw[if_neg h4,if_neg e2]
          exact ho j q (by omega) (by omega) h3 e2
      . rw[if_neg e1]
        by_cases e3:p=j
        . rw[if_pos e3,if_neg h4,if_neg (by omega)]
          exact ho (j-1) q (by omega) (by omega) h3 (by omega)
        . rw[if_neg e3,if_neg h4]
          by_cases e2:q=j
          . rw[if_pos e2];exact ho p (j-1) h1 (by omega) (by omega) (by omega)
          . rw[if_neg e2];exact ho p q h1 h2 h3 e2
    . right
      rw[if_neg (by simpa using hlt)]
      refine⟨_,rfl,zs,by rw[hw,dk (n:=1125899906842625) (by omega) (by omega)],hp,done fun p h1 h2=>?_⟩
      have hk:key l (zs.getD (j-1) 0)<=key l (zs.getD j 0):=by
       have:=fun h=>hlt (hcl.2 h)
       omega
      by_cases e:p=j-1
      . rw[e];exact hk
      . exact Int.le_trans (ho p (j-1) h1 (by omega) (by omega) (by omega)) hk
  . right
    rw[if_neg (show ¬ (j:Int)>(a:Int)by omega)]
    simp only[ae,aJ,if_false]
    exact⟨_,rfl,zs,by rw[hw,dk (n:=1125899906842625) (by omega) (by omega)],hp,done fun p h1 h2=>by omega⟩) i ((i:Int),ys) ⟨i,ys,rfl,rfl,ha,Nat.le_refl _,Pm.refl _ _ _,fun p q h1 h2 h3 h4=>hs p q h1 h2 (by omega)⟩
 exact⟨zs,hr,h1,h2⟩
theorem Dj{a b:Nat}{ys:List Int}(hall:uN l ys)(hab:a<=b)(hbl:b<=ys.length)(hb:ys.length<=Qb):
 ∃ zs,G.cU ys (a:Int) (b:Int) l=some zs/\Pm ys zs a b/\sJ l zs a b:=by
 have hb':=hb
 rw[rO]at hb'
 unfold G.cU
 rw[dk (k:=a) (n:=1125899906842625) (by omega) (by omega)]
 refine cu (fun k s=>∃ (i:Nat) (zs:List Int),s=((i:Int),zs)/\k=b+1-i/\a+1<=i/\(i<=b\/i=a+1)/\Pm ys zs a b/\sJ l zs a i)
  (fun zs=>Pm ys zs a b/\sJ l zs a b) ?_ _ _ ⟨a+1,ys,rfl,rfl,Nat.le_refl _, .inr rfl,Pm.refl _ _ _,fun p q h1 h2 h3=>by omega⟩
 rintro k s ⟨i,zs,rfl,rfl,h1,h2,hp,hs⟩
 have hlen:=hp.len
 unfold G.fA
 by_cases hib:i<b
 . left
   rw[if_pos (show(i:Int)<(b:Int)by omega)]
   obtain⟨ws,hw,h3,h4⟩:=QA (l:=l) (a:=a) (i:=i) (ys:=zs) (w:=((i:Int),zs)) rfl (hp.all hall) (by omega) (by omega) (by rw[rO];omega) hs
   exact⟨b+1-(i+1),_,hw,by omega,i+1,ws,rfl,rfl,by omega, .inl (by omega),hp.trans (h3.mono (Nat.le_refl _) (by omega)),h4⟩
 . right
   rw[if_neg (show ¬ (i:Int)<(b:Int)by omega)]
   exact⟨_,rfl,hp,fun p q h3 h4 h5=>hs p q h3 h4 (by omega)⟩
theorem zk{a b n:Nat}{ys:List Int}(hab:a+n<=b)(hbl:b+n<=ys.length)(hb:ys.length<=Qb):
 ∃ zs,G.cC ys (a:Int) (b:Int) (n:Int) l=some zs/\zs.Perm ys/\
  ∀ p,zs.getD p 0=if a<=p/\p<a+n then ys.getD (p-a+b) 0 else if b<=p/\p<b+n then ys.getD (p-b+a) 0 else ys.getD p 0:=by
 rw[rO]at hb
 unfold G.cC
 refine cu (fun k s=>∃ (i:Nat) (zs:List Int),s=((i:Int),zs)/\k=n-i/\i<=n/\zs.Perm ys/\∀ p,zs.getD p 0=if a<=p/\p<a+i then ys.getD (p-a+b) 0 else if b<=p/\p<b+i then ys.getD (p-b+a) 0 else ys.getD p 0)
  (fun zs:List Int=>zs.Perm ys/\∀ p,zs.getD p 0=if a<=p/\p<a+n then ys.getD (p-a+b) 0 else if b<=p/\p<b+n then ys.getD (p-b+a) 0 else ys.getD p 0) ?_ _ _
  ⟨0,ys,rfl,rfl,Nat.zero_le _, .refl _,fun p=>by rw[if_neg (by omega),if_neg (by omega)]⟩
 rintro k s ⟨i,zs,rfl,rfl,hi,hp,hg⟩
 have hlen:=hp.length_eq
 unfold G.fT
 by_cases hin:i<n
 . left
   have e1:i64.wrap ((a:Int)+(i:Int))=((a+i:Nat):Int):=by rw[fB (by omega) (by omega)];omega
   have e2:i64.wrap ((b:Int)+(i:Int))=((b+i:Nat):Int):=by rw[fB (by omega) (by omega)];omega
   rw[if_pos (show(i:Int)<(n:Int)by omega),e1,e2,eZ (0:Int) (show b+i<zs.length by omega),eZ (0:Int) (show a+i<zs.length by omega)]
   obtain⟨x,hx⟩:=uk (l:=zs.set (a+i) (zs.getD (b+i) 0)) (i:=((b+i:Nat):Int)) (k:=b+i) rfl (by simp;omega)
   simp only[ae,aK,hx,dk hin (by omega)]
   refine⟨n-(i+1),_,rfl,by omega,i+1,sw zs (a+i) (b+i),rfl,rfl,by omega,(F7 (by omega) (by omega)).trans hp,fun p=>?_⟩
   rw[ES (by omega) (by omega),hg (a+i),hg (b+i),hg p]
   repeat' split
   all_goals first|rfl|omega|(congr 1;omega)
 . right
   rw[if_neg (show ¬ (i:Int)<(n:Int)by omega)]
   have:i=n:=by omega
   subst this
   exact⟨_,rfl,hp,hg⟩
def HA(f:Nat->Int)(lo m hi p:Nat):Int:=if p<lo\/hi<=p then f p else if p<lo+(hi-m)then f (p+(m-lo))else f (p-(hi-m))
theorem Q9{a m b:Nat}{ys:List Int}(ham:a<m)(hmb:m<b)(hbl:b<=ys.length)(hb:ys.length<=Qb):
 ∃ zs,G.dF ys (a:Int) (m:Int) (b:Int) l=some zs/\zs.Perm ys/\∀ p,zs.getD p 0=HA (fun p=>ys.getD p 0) a m b p:=by
 have hb':=hb
 rw[rO]at hb'
 unfold G.dF
 have e1:i64.wrap ((m:Int)-(a:Int))=((m-a:Nat):Int):=by rw[fB (by omega) (by omega)];omega
 have e2:i64.wrap ((b:Int)-(m:Int))=((b-m:Nat):Int):=by rw[fB (by omega) (by omega)];omega
 rw[e1,e2]
 obtain⟨r,hr,i,zs,rfl,hi1,hi2,hi3,hp,hg⟩:=cu (f:=G.eA (m:Int) l)
  (fun k s=>∃ (i j:Nat) (zs:List Int),s=((i:Int),(j:Int),zs)/\k=i+j/\0<i/\0<j/\i<=m-a/\j<=b-m/\zs.Perm ys/\∀ p,HA (fun p=>ys.getD p 0) a m b p=HA (fun p=>zs.getD p 0) (m-i) m (m+j) p)
  (fun r=>∃ (i:Nat) (zs:List Int),r=((i:Int),zs)/\0<i/\i<=m-a/\i<=b-m/\zs.Perm ys/\∀ p,HA (fun p=>ys.getD p 0) a m b p=HA (fun p=>zs.getD p 0) (m-i) m (m+i) p) (by
  rintro k s ⟨i,j,zs,rfl,rfl,h1,h2,h3,h4,hp,hg⟩
  have hlen:=hp.length_eq
  have e3:i64.wrap ((m:Int)-(i:Int))=((m-i:Nat):Int):=by rw[fB (by omega) (by omega)];omega
  unfold G.eA
  by_cases hij:i=j
  . right
    subst hij
    rw[if_neg (by simp)]
    exact⟨_,rfl,i,zs,rfl,h1,h3,h4,hp,hg⟩
  . left
    rw[if_pos (show((i:Int),(j:Int),zs).1≠((i:Int),(j:Int),zs).2.1 by simp;omega)]
    by_cases hgt:i>j
    . rw[if_pos (show((i:Int),(j:Int),zs).1>((i:Int),(j:Int),zs).2.1 by simp;omega)]
      obtain⟨ws,hw,hq,hz⟩:=zk (l:=l) (a:=m-i) (b:=m) (n:=j) (ys:=zs) (by omega) (by omega) (by rw[rO];omega)
      have e4:i64.wrap ((i:Int)-(j:Int))=((i-j:Nat):Int):=by rw[fB (by omega) (by omega)];omega
      simp only[e3,hw,ae,e4]
      refine⟨i-j+j,_,rfl,by omega,i-j,j,ws,rfl,rfl,by omega,h2,by omega,h4,hq.trans hp,fun p=>?_⟩
      rw[hg p]
      unfold HA
      simp only[hz]
      repeat' split
      all_goals first|rfl|omega|(congr 1;omega)
    . rw[if_neg (show ¬ ((i:Int),(j:Int),zs).1>((i:Int),(j:Int),zs).2.1 by simp;omega)]
      have e5:i64.wrap (i64.wrap ((m:Int)+(j:Int))-(i:Int))=((m+j-i:Nat):Int):=by rw[fB (x:=(m:Int)+(j:Int)) (by omega) (by omega),fB (by omega) (by omega)];omega
      obtain⟨ws,hw,hq,hz⟩:=zk (l:=l) (a:=m-i) (b:=m+j-i) (n:=i) (ys:=zs) (by omega) (by omega) (by rw[rO];omega)
      have e4:i64.wrap ((j:Int)-(i:Int))=((j-i:Nat):Int):=by rw[fB (by omega) (by omega)];omega
      simp only[e3,e5,hw,ae,e4]
      refine⟨i+(j-i),_,rfl,by omega,i,j-i,ws,rfl,rfl,h1,by omega,h3,by omega,hq.trans hp,fun p=>?_⟩
      rw[hg p]
      unfold HA
      simp only[hz]
      repeat' split
      all_goals first|rfl|omega|(congr 1;omega)) _ _
  ⟨m-a,b-m,ys,rfl,rfl,by omega,by omega,Nat.le_refl _,Nat.le_refl _, .refl _,fun p=>by rw[show m-(m-a)=a by omega,show m+(b-m)=b by omega]⟩
 rw[hr]
 have hlen:=hp.length_eq
 have e3:i64.wrap ((m:Int)-(i:Int))=((m-i:Nat):Int):=by rw[fB (by omega) (by omega)];omega
 simp only[ae,e3]
 obtain⟨ws,hw,hq,hz⟩:=zk (l:=l) (a:=m-i) (b:=m) (n:=i) (ys:=zs) (by omega) (by omega) (by rw[rO];omega)
 rw[hw]
 refine⟨ws,rfl,hq.trans hp,fun p=>?_⟩
 rw[hz p,hg p]
 unfold HA
 repeat' split
 all_goals first|rfl|omega|(congr 1;omega)
end
end G
end Go.Proofs.YtekpafdhgkocaaaGreat
namespace Go.Proofs.YtekpafdhgkocaaaGreat
open IntKind(i64)
open G
namespace G
theorem JS{f:Int×Int->Option ((Int×Int)⊕Int)}(T:Nat->Prop)(lo hi:Nat)(hle:lo<=hi)
 (hstep:∀ i j:Nat,lo<=i->i<j->j<=hi->(T ((i+j)/2)/\f ((i:Int),(j:Int))=some (.inl ((((i+j)/2+1:Nat):Int),(j:Int))))\/(¬ T ((i+j)/2)/\f ((i:Int),(j:Int))=some (.inl ((i:Int),(((i+j)/2:Nat):Int)))))
 (hend:∀ i:Nat,f ((i:Int),(i:Int))=some (.inr (i:Int))) (mono:∀ p q,lo<=p->p<=q->q<hi->T q->T p):
 ∃ s:Nat,Iter f ((lo:Int),(hi:Int))=some (s:Int)/\lo<=s/\s<=hi/\(∀ p,lo<=p->p<s->T p)/\∀ p,s<=p->p<hi->¬ T p:=by
 obtain⟨r,hr,s,rfl,h⟩:=cu (f:=f)
  (fun k s=>∃ i j:Nat,s=((i:Int),(j:Int))/\k=j-i/\lo<=i/\i<=j/\j<=hi/\(∀ p,lo<=p->p<i->T p)/\∀ p,j<=p->p<hi->¬ T p)
  (fun r=>∃ s:Nat,r=(s:Int)/\lo<=s/\s<=hi/\(∀ p,lo<=p->p<s->T p)/\∀ p,s<=p->p<hi->¬ T p) (by
  rintro k s ⟨i,j,rfl,rfl,h1,h2,h3,h4,h5⟩
  by_cases hij:i<j
  . left
    rcases hstep i j h1 hij h3 with⟨ht,hf⟩|⟨ht,hf⟩
    . exact⟨j-((i+j)/2+1),_,hf,by omega,(i+j)/2+1,j,rfl,rfl,by omega,by omega,h3,fun p hp1 hp2=>mono p _ hp1 (by omega) (by omega) ht,h5⟩
    . exact⟨(i+j)/2-i,_,hf,by omega,i,(i+j)/2,rfl,rfl,h1,by omega,by omega,h4,fun p hp1 hp2 ht'=>ht (mono _ p (by omega) hp1 hp2 ht')⟩
  . right
    have:i=j:=by omega
    subst this
    exact⟨_,hend i,i,rfl,h1,h3,h4,h5⟩) _ _
  ⟨lo,hi,rfl,rfl,Nat.le_refl _,hle,Nat.le_refl _,fun p h1 h2=>by omega,fun p h1 h2=>by omega⟩
 exact⟨s,hr,h⟩
section
variable {l:List G.Command}
theorem pA{ys zs:List Int}{lo m hi:Nat}(hz:∀ p,zs.getD p 0=HA (fun p=>ys.getD p 0) lo m hi p)(p:Nat):
 key l (zs.getD p 0)=if p<lo\/hi<=p then key l (ys.getD p 0)else if p<lo+(hi-m)then key l (ys.getD (p+(m-lo)) 0)else key l (ys.getD (p-(hi-m)) 0):=by
 rw[hz];unfold HA;split
 . rfl
 . split<;>rfl
theorem Oc{ys zs:List Int}{lo m hi:Nat}(hp:zs.Perm ys)(hz:∀ p,zs.getD p 0=HA (fun p=>ys.getD p 0) lo m hi p):Pm ys zs lo hi:=⟨hp,fun p h=>by rw[hz];unfold HA;rw[if_pos h]⟩
theorem Td{i j:Nat}(h:i+j<=9223372036854775807):i64.wrap (lx .u64 (IntKind.u64.wrap (i64.wrap ((i:Int)+(j:Int)))) 1)=(((i+j)/2:Nat):Int):=NS (by omega) h
theorem Z4{ys:List Int}{a b:Nat}(hall:uN l ys)(hab:a+1<b)(hbl:b<=ys.length)(hb:ys.length<=Qb)(hs:sJ l ys (a+1) b):
 ∃ zs,(∀ fx,G.bZ fx ys (a:Int) ((a+1:Nat):Int) (b:Int) l=some zs)/\Pm ys zs a b/\sJ l zs a b:=by
 have hb':=hb
 rw[rO]at hb'
 obtain⟨s,hs1,h1,h2,h3,h4⟩:=JS (f:=G.cZ ys (a:Int) l) (fun p=>key l (ys.getD p 0)<key l (ys.getD a 0)) (a+1) b (by omega)
  (fun i j hi hij hj=>by
   obtain⟨c,hc,hcl⟩:=xo (l:=l) (hall.get (p:=(i+j)/2) (by omega)) (hall.get (p:=a) (by omega))
   unfold G.cZ
   rw[if_pos (show((i:Int),(j:Int)).1<((i:Int),(j:Int)).2 by simp;omega)]
   simp only[Td (show i+j<=9223372036854775807 by omega)]
   rw[eZ (0:Int) (show(i+j)/2<ys.length by omega),eZ (0:Int) (show a<ys.length by omega)]
   simp only[ae,hc]
   by_cases hlt:c<0
   . left
     rw[if_pos hlt,dk (n:=1125899906842625) (by omega) (by omega)]
     exact⟨hcl.1 hlt,rfl⟩
   . right
     rw[if_neg hlt]
     exact⟨fun h=>hlt (hcl.2 h),rfl⟩)
  (fun i=>by unfold G.cZ;rw[if_neg (by simp)])
  (fun p q hp hpq hq ht=>by
   by_cases e:p=q
   . subst e;exact ht
   . exact Int.lt_of_le_of_lt (hs p q hp (by omega) hq) ht)
 obtain⟨r,hr,zs,rfl,hp,hz⟩:=cu (f:=G.ea (s:Int))
  (fun k st=>∃ (i:Nat) (zs:List Int),st=((i:Int),zs)/\k=s-1-i/\a<=i/\i<=s-1/\zs.Perm ys/\∀ p,zs.getD p 0=HA (fun p=>ys.getD p 0) a (a+1) (i+1) p)
  (fun r=>∃ zs:List Int,r= .inr zs/\zs.Perm ys/\∀ p,zs.getD p 0=HA (fun p=>ys.getD p 0) a (a+1) s p) (by
   rintro k st ⟨i,zs,rfl,rfl,hi1,hi2,hp,hz⟩
   have hlen:=hp.length_eq
   unfold G.ea
   have e1:i64.wrap ((s:Int)-1)=((s-1:Nat):Int):=by rw[fB (by omega) (by omega)];omega
   rw[e1]
   by_cases hlt:i<s-1
   . left
     have e2:i64.wrap ((i:Int)+1)=((i+1:Nat):Int):=dk (n:=1125899906842625) (by omega) (by omega)
     rw[if_pos (show((i:Int),zs).1<((s-1:Nat):Int)by simp;omega)]
     obtain⟨x,hx⟩:=uk (l:=zs.set i (zs.getD (i+1) 0)) (i:=((i+1:Nat):Int)) (k:=i+1) rfl (by simp;omega)
     simp only[e2,eZ (0:Int) (show i+1<zs.length by omega),eZ (0:Int) (show i<zs.length by omega),ae,aK,hx]
     refine⟨s-1-(i+1),_,rfl,by omega,i+1,sw zs i (i+1),rfl,rfl,by omega,by omega,(F7 (by omega) (by omega)).trans hp,fun p=>?_⟩
     rw[ES (by omega) (by omega),hz i,hz (i+1),hz p]
     unfold HA
     repeat' split
     all_goals first|rfl|omega|(congr 1;omega)
   . right
     rw[if_neg (show ¬ ((i:Int),zs).1<((s-1:Nat):Int)by simp;omega)]
     exact⟨_,rfl,zs,rfl,hp,by rw[show s=i+1 by omega];exact hz⟩) _ _
  ⟨a,ys,rfl,rfl,Nat.le_refl _,by omega, .refl _,fun p=>by unfold HA;(repeat' split);all_goals (first|rfl|omega|(congr 1;omega))⟩
 refine⟨zs,fun fx=>?_,(Oc hp hz).mono (Nat.le_refl _) h2,fun p q h5 h6 h7=>?_⟩
 . unfold G.bZ
   rw[if_pos (by rw[fB (by omega) (by omega)];omega),hs1]
   simp only[ae,hr,I0]
 . rw[pA hz,pA hz]
   by_cases c1:p<a+(s-(a+1))
   . rw[if_neg (by omega),if_pos c1]
     by_cases c2:q<a+(s-(a+1))
     . rw[if_neg (by omega),if_pos c2];exact hs _ _ (by omega) (by omega) (by omega)
     . by_cases c3:s<=q
       . rw[if_pos (.inr c3)];exact hs _ _ (by omega) (by omega) h7
       . rw[if_neg (by omega),if_neg c2]
         have:=h3 (p+(a+1-a)) (by omega) (by omega)
         rw[show q-(s-(a+1))=a by omega];exact Int.le_of_lt this
   . by_cases c3:s<=p
     . rw[if_pos (.inr c3),if_pos (.inr (by omega))];exact hs _ _ (by omega) h6 h7
     . rw[if_neg (by omega),if_neg c1,if_pos (.inr (by omega)),show p-(s-(a+1))=a by omega]
       have:=h4 q (by omega) h7
       omega
theorem Z5{ys:List Int}{a m:Nat}(hall:uN l ys)(ham:a+1<m)(hbl:m+1<=ys.length)(hb:ys.length<=Qb)(hs:sJ l ys a m):
 ∃ zs,(∀ fx,G.bZ fx ys (a:Int) (m:Int) ((m+1:Nat):Int) l=some zs)/\Pm ys zs a (m+1)/\sJ l zs a (m+1):=by
 have hb':=hb
 rw[rO]at hb'
 obtain⟨s,hs1,h1,h2,h3,h4⟩:=JS (f:=G.c7 ys (m:Int) l) (fun p=>¬ key l (ys.getD m 0)<key l (ys.getD p 0)) a m (by omega)
  (fun i j hi hij hj=>by
   obtain⟨c,hc,hcl⟩:=xo (l:=l) (hall.get (p:=m) (by omega)) (hall.get (p:=(i+j)/2) (by omega))
   unfold G.c7
   rw[if_pos (show((i:Int),(j:Int)).1<((i:Int),(j:Int)).2 by simp;omega)]
   simp only[Td (show i+j<=9223372036854775807 by omega)]
   rw[eZ (0:Int) (show(i+j)/2<ys.length by omega),eZ (0:Int) (show m<ys.length by omega)]
   simp only[ae,hc]
   by_cases hlt:c<0
   . right
     rw[if_neg (by simpa using hlt)]
     exact⟨fun h=>h (hcl.1 hlt),rfl⟩
   . left
     rw[if_pos (by simpa using hlt),dk (n:=1125899906842625) (by omega) (by omega)]
     exact⟨fun h=>hlt (hcl.2 h),rfl⟩)
  (fun i=>by unfold G.c7;rw[if_neg (by simp)])
  (fun p q hp hpq hq ht=>by
   by_cases e:p=q
   . subst e;exact ht
   . have:=hs p q hp (by omega) hq
     omega)
 obtain⟨r,hr,zs,rfl,hp,hz⟩:=cu (f:=G.eb (s:Int))
  (fun k st=>∃ (i:Nat) (zs:List Int),st=((i:Int),zs)/\k=i/\s<=i/\i<=m/\zs.Perm ys/\∀ p,zs.getD p 0=HA (fun p=>ys.getD p 0) i m (m+1) p)
  (fun r=>∃ zs:List Int,r= .inr zs/\zs.Perm ys/\∀ p,zs.getD p 0=HA (fun p=>ys.getD p 0) s m (m+1) p) (by
   rintro k st ⟨i,zs,rfl,rfl,hi1,hi2,hp,hz⟩
   have hlen:=hp.length_eq
   unfold G.eb
   by_cases hlt:s<k
   . left
     have e2:i64.wrap ((k:Int)-1)=((k-1:Nat):Int):=by rw[fB (by omega) (by omega)];omega
     rw[if_pos (show((k:Int),zs).1>(s:Int)by simp;omega)]
     obtain⟨x,hx⟩:=uk (l:=zs.set k (zs.getD (k-1) 0)) (i:=((k-1:Nat):Int)) (k:=k-1) rfl (by simp;omega)
     simp only[e2,eZ (0:Int) (show k-1<zs.length by omega),eZ (0:Int) (show k<zs.length by omega),ae,aK,hx]
     refine⟨k-1,_,rfl,by omega,k-1,sw zs k (k-1),rfl,rfl,by omega,by omega,(F7 (by omega) (by omega)).trans hp,fun p=>?_⟩
     rw[ES (by omega) (by omega),hz k,hz (k-1),hz p]
     unfold HA
     repeat' split
     all_goals first|rfl|omega|(congr 1;omega)
   . right
     rw[if_neg (show ¬ ((k:Int),zs).1>(s:Int)by simp;omega)]
     exact⟨_,rfl,zs,rfl,hp,by rw[show s=k by omega];exact hz⟩) _ _
  ⟨m,ys,rfl,rfl,h2,Nat.le_refl _, .refl _,fun p=>by unfold HA;(repeat' split);all_goals (first|rfl|omega|(congr 1;omega))⟩
 refine⟨zs,fun fx=>?_,(Oc hp hz).mono h1 (Nat.le_refl _),fun p q h5 h6 h7=>?_⟩
 . unfold G.bZ
   rw[if_neg (by rw[fB (by omega) (by omega)];omega)]
   simp only[ae,nB]
   rw[if_pos (by rw[fB (by omega) (by omega)];omega),hs1]
   simp only[ae,hr,I0]
 . rw[pA hz,pA hz]
   by_cases c1:p<s
   . rw[if_pos (.inl c1)]
     by_cases c2:q<s
     . rw[if_pos (.inl c2)];exact hs _ _ h5 h6 (by omega)
     . rw[if_neg (by omega)]
       by_cases c3:q<s+(m+1-m)
       . rw[if_pos c3,show q+(m-s)=m by omega]
         have:=h3 p h5 c1
         omega
       . rw[if_neg c3];exact hs _ _ h5 (by omega) (by omega)
   . rw[if_neg (by omega),if_neg (show ¬ (q<s\/m+1<=q)by omega),if_neg (show ¬ q<s+(m+1-m)by omega)]
     by_cases c3:p<s+(m+1-m)
     . rw[if_pos c3,show p+(m-s)=m by omega]
       have:=h4 (q-(m+1-m)) (by omega) (by omega)
       omega
     . rw[if_neg c3];exact hs _ _ (by omega) (by omega) (by omega)
theorem Z6{ys:List Int}{a m b:Nat}(hall:uN l ys)(ham:a+1<m)(hmb:m+1<b)(hbl:b<=ys.length)(hb:ys.length<=Qb)(hs1:sJ l ys a m)(hs2:sJ l ys m b):
 ∃ (ws:List Int) (s e c:Nat),(∀ fx,G.bZ fx ys (a:Int) (m:Int) (b:Int) l=
  (if a<s/\s<c then fx (ws,(a:Int),(s:Int),(c:Int),l)else some ws).bind fun v=>if c<e/\e<b then fx (v,(c:Int),(e:Int),(b:Int),l)else some v)/\
  a<c/\c<b/\a<=s/\s<=c/\c<=e/\e<=b/\Pm ys ws a b/\sJ l ws a s/\sJ l ws s c/\sJ l ws c e/\sJ l ws e b/\∀ p q,a<=p->p<c->c<=q->q<b->key l (ws.getD p 0)<=key l (ws.getD q 0):=by
 have hb':=hb
 rw[rO]at hb'
 obtain⟨c,hc⟩:∃ c,c=(a+b)/2:=⟨_,rfl⟩
 have eN:i64.wrap ((c:Int)+(m:Int))=((c+m:Nat):Int):=by rw[fB (by omega) (by omega)];omega
 obtain⟨lo,hi,hlo,hv3⟩:∃ lo hi:Nat,((m<=c/\lo=a/\hi=m)\/(c<m/\lo=c+m-b/\hi=c))/\
  (if(m:Int)>(c:Int)then some ((i64.wrap (((c+m:Nat):Int)-(b:Int))),(c:Int))else some ((a:Int),(m:Int)))=some ((lo:Int),(hi:Int)):=by
  by_cases h:c<m
  . refine⟨c+m-b,c, .inr ⟨h,rfl,rfl⟩,?_⟩
    rw[if_pos (by omega),fB (by omega) (by omega)]
    rw[show((c+m:Nat):Int)-(b:Int)=((c+m-b:Nat):Int)by omega]
  . exact⟨a,m, .inl ⟨by omega,rfl,rfl⟩,by rw[if_neg (by omega)]⟩
 obtain⟨s,hsr,h1,h2,h3,h4⟩:=JS (f:=G.c8 ys (a:Int) (m:Int) (b:Int) l) (fun p=>¬ key l (ys.getD (c+m-1-p) 0)<key l (ys.getD p 0)) lo hi (by omega)
  (fun i j hi1 hij hj=>by
   obtain⟨d,hd⟩:∃ d,d=(i+j)/2:=⟨_,rfl⟩
   obtain⟨v,hv,hvl⟩:=xo (l:=l) (hall.get (p:=c+m-1-d) (by omega)) (hall.get (p:=d) (by omega))
   unfold G.c8
   rw[if_pos (show((i:Int),(j:Int)).1<((i:Int),(j:Int)).2 by simp;omega)]
   simp only[Td (show i+j<=9223372036854775807 by omega),Td (show a+b<=9223372036854775807 by omega),<- hc,<- hd,eN]
   have e1:i64.wrap (i64.wrap (((c+m:Nat):Int)-1)-(d:Int))=((c+m-1-d:Nat):Int):=by rw[fB (x:=((c+m:Nat):Int)-1) (by omega) (by omega),fB (by omega) (by omega)];omega
   rw[e1,eZ (0:Int) (show c+m-1-d<ys.length by omega),eZ (0:Int) (show d<ys.length by omega)]
   simp only[ae,hv]
   by_cases hlt:v<0
   . right
     rw[if_neg (by simpa using hlt)]
     exact⟨fun h=>h (hvl.1 hlt),rfl⟩
   . left
     rw[if_pos (by simpa using hlt),dk (n:=1125899906842625) (by omega) (by omega)]
     exact⟨fun h=>hlt (hvl.2 h),rfl⟩)
  (fun i=>by unfold G.c8;rw[if_neg (by simp)])
  (fun p q hp hpq hq ht=>by
   by_cases e:p=q
   . subst e;exact ht
   . have k1:=hs1 p q (by omega) (by omega) (by omega)
     have k2:=hs2 (c+m-1-q) (c+m-1-p) (by omega) (by omega) (by omega)
     omega)
 obtain⟨e,he⟩:∃ e,e=c+m-s:=⟨_,rfl⟩
 have eE:i64.wrap (((c+m:Nat):Int)-(s:Int))=(e:Int):=by rw[fB (by omega) (by omega)];omega
 obtain⟨ws,hw,hp,hz⟩:∃ ws:List Int,((if(s:Int)<(m:Int)then some (decide ((m:Int)<(e:Int)))else some false).bind fun v5=>
  if v5=true then(G.dF ys (s:Int) (m:Int) (e:Int) l).bind fun y3=>some y3 else some ys)=some ws/\ws.Perm ys/\∀ p,ws.getD p 0=HA (fun p=>ys.getD p 0) s m e p:=by
  by_cases hsm:s<m
  . rw[if_pos (by omega)]
    by_cases hme:m<e
    . obtain⟨ws,h5,h6,h7⟩:=Q9 (l:=l) (a:=s) (m:=m) (b:=e) (ys:=ys) hsm hme (by omega) hb
      simp only[ae,show((m:Int)<(e:Int))=True by simp;omega,decide_true,if_true,h5]
      exact⟨ws,rfl,h6,h7⟩
    . simp only[ae,show((m:Int)<(e:Int))=False by simp;omega,decide_false,aJ,if_false]
      refine⟨ys,rfl, .refl _,fun p=>?_⟩
      unfold HA
      repeat' split
      all_goals first|rfl|omega|(congr 1;omega)
  . rw[if_neg (by omega)]
    refine⟨ys,rfl, .refl _,fun p=>?_⟩
    unfold HA
    repeat' split
    all_goals first|rfl|omega|(congr 1;omega)
 refine⟨ws,s,e,c,fun fx=>?_,by omega,by omega,by omega,by omega,by omega,by omega,(Oc hp hz).mono (by omega) (by omega),?_,?_,?_,?_,?_⟩
 . unfold G.bZ
   rw[if_neg (by rw[fB (by omega) (by omega)];omega)]
   simp only[ae,nB]
   rw[if_neg (by rw[fB (by omega) (by omega)];omega)]
   simp only[ae,nB,Td (show a+b<=9223372036854775807 by omega),<- hc,eN,hv3,hsr,eE]
   rw[<- aH,hw]
   simp only[ae]
   have k1:(if(a:Int)<(s:Int)then some (decide ((s:Int)<(c:Int)))else some false)=some (decide (a<s/\s<c)):=by
    by_cases h5:a<s
    . rw[if_pos (by omega)];congr 1;simp only[bg];omega
    . rw[if_neg (by omega)];congr 1;simp;omega
   have k2:(if(c:Int)<(e:Int)then some (decide ((e:Int)<(b:Int)))else some false)=some (decide (c<e/\e<b)):=by
    by_cases h5:c<e
    . rw[if_pos (by omega)];congr 1;simp only[bg];omega
    . rw[if_neg (by omega)];congr 1;simp;omega
   simp only[k1,k2,ae,au,JR]
 . exact fun p q h5 h6 h7=>by rw[pA hz,pA hz,if_pos (.inl (by omega)),if_pos (.inl h7)];exact hs1 p q h5 h6 (by omega)
 . exact fun p q h5 h6 h7=>by
    rw[pA hz,pA hz,if_neg (by omega),if_neg (show ¬ (q<s\/e<=q)by omega),if_pos (by omega),if_pos (by omega)];exact hs2 _ _ (by omega) (by omega) (by omega)
 . exact fun p q h5 h6 h7=>by
    rw[pA hz,pA hz,if_neg (by omega),if_neg (show ¬ (q<s\/e<=q)by omega),if_neg (by omega),if_neg (by omega)];exact hs1 _ _ (by omega) (by omega) (by omega)
 . exact fun p q h5 h6 h7=>by rw[pA hz,pA hz,if_pos (.inr h5),if_pos (.inr (by omega))];exact hs2 p q (by omega) h6 h7
 . intro p q h5 h6 h7 h8
   rw[pA hz,pA hz]
   by_cases c1:p<s
   . rw[if_pos (.inl c1)]
     by_cases c2:q<e
     . rw[if_neg (by omega),if_neg (by omega)];exact hs1 _ _ h5 (by omega) (by omega)
     . rw[if_pos (.inr (by omega))]
       have k1:=h3 (s-1) (by omega) (by omega)
       rw[show c+m-1-(s-1)=e by omega]at k1
       have k2:key l (ys.getD p 0)<=key l (ys.getD (s-1) 0):=by
        by_cases ee:p=s-1
        . rw[ee];exact Int.le_refl _
        . exact hs1 _ _ h5 (by omega) (by omega)
       have k3:key l (ys.getD e 0)<=key l (ys.getD q 0):=by
        by_cases ee:e=q
        . rw[ee];exact Int.le_refl _
        . exact hs2 _ _ (by omega) (by omega) h8
       omega
   . rw[if_neg (by omega),if_pos (by omega)]
     by_cases c2:q<e
     . rw[if_neg (by omega),if_neg (by omega)]
       have k1:=h4 s (Nat.le_refl _) (by omega)
       rw[show c+m-1-s=e-1 by omega]at k1
       have k2:key l (ys.getD (p+(m-s)) 0)<=key l (ys.getD (e-1) 0):=by
        by_cases ee:p+(m-s)=e-1
        . rw[ee];exact Int.le_refl _
        . exact hs2 _ _ (by omega) (by omega) (by omega)
       have k3:key l (ys.getD s 0)<=key l (ys.getD (q-(e-m)) 0):=by
        by_cases ee:s=q-(e-m)
        . rw[<- ee];exact Int.le_refl _
        . exact hs1 _ _ (by omega) (by omega) (by omega)
       omega
     . rw[if_pos (.inr (by omega))];exact hs2 _ _ (by omega) (by omega) h8
theorem sJ.join{zs:List Int}{a c b:Nat}(h1:sJ l zs a c)(h2:sJ l zs c b)(h3:∀ p q,a<=p->p<c->c<=q->q<b->key l (zs.getD p 0)<=key l (zs.getD q 0)):sJ l zs a b:=fun p q h4 h5 h6=>by
 by_cases hq:q<c
 . exact h1 p q h4 h5 hq
 . by_cases hp:p<c
   . exact h3 p q h4 hp (by omega) h6
   . exact h2 p q (by omega) h5 h6
theorem Pm.any{xs zs:List Int}{lo hi:Nat}(h:Pm xs zs lo hi)(hl:hi<=xs.length){p:Nat}(h1:lo<=p)(h2:p<hi):∃ q,lo<=q/\q<hi/\zs.getD p 0=xs.getD q 0:=by
 have hlen:=h.len
 have split:∀ ws:List Int,ws.length=xs.length->ws=ws.take lo++((ws.drop lo).take (hi-lo)++ws.drop hi):=fun ws hw=>by
  have:=List.take_append_drop (hi-lo) (ws.drop lo)
  rw[List.drop_drop,show lo+(hi-lo)=hi by omega]at this
  rw[this,List.take_append_drop]
 have e1:zs.take lo=xs.take lo:=List.ext_getElem? fun i=>by
  simp only[List.getElem?_take]
  split
  . have:=h.out i (.inl (by assumption))
    simp only[List.getD_eq_getElem?_getD]at this
    rw[List.getElem?_eq_getElem (by omega),List.getElem?_eq_getElem (by omega)]at this ⊢
    simpa using this
  . rfl
 have e2:zs.drop hi=xs.drop hi:=List.ext_getElem? fun i=>by
  simp only[List.getElem?_drop]
  have:=h.out (hi+i) (.inr (by omega))
  simp only[List.getD_eq_getElem?_getD]at this
  by_cases hi':hi+i<xs.length
  . rw[List.getElem?_eq_getElem (by omega),List.getElem?_eq_getElem hi']at this ⊢
    simpa using this
  . rw[List.getElem?_eq_none (by omega),List.getElem?_eq_none (by omega)]
 have hp:=h.perm
 rw[split zs hlen,split xs rfl,e1,e2]at hp
 have hm:=(List.perm_append_right_iff _).1 ((List.perm_append_left_iff _).1 hp)
 have hmem:zs.getD p 0∈(zs.drop lo).take (hi-lo):=by
  have:zs.getD p 0=zs[p]:=by simp[show p<zs.length by omega]
  rw[this]
  refine List.mem_iff_getElem?.2 ⟨p-lo,?_⟩
  rw[List.getElem?_take,if_pos (by omega),List.getElem?_drop,show lo+(p-lo)=p by omega,List.getElem?_eq_getElem (by omega)]
 obtain⟨i,hi'⟩:=List.mem_iff_getElem?.1 (hm.mem_iff.1 hmem)
 rw[List.getElem?_take]at hi'
 split at hi'
 . rw[List.getElem?_drop]at hi'
   refine⟨lo+i,by omega,by omega,?_⟩
   rw[List.getD_eq_getElem?_getD (l:=xs),hi'];rfl
 . cases hi'
theorem Uv{ys:List Int}{a m b:Nat}(hall:uN l ys)(ham:a<m)(hmb:m<b)(hbl:b<=ys.length)(hb:ys.length<=Qb)(hs1:sJ l ys a m)(hs2:sJ l ys m b):
 ∃ zs,G.dw ys (a:Int) (m:Int) (b:Int) l=some zs/\Pm ys zs a b/\sJ l zs a b:=by
 unfold G.dw
 obtain⟨r,hr,a',b',ha',hb2,hp,hs⟩:=DW (F:=G.eu)
  (fun k x=>∃ (ys:List Int) (a m b:Nat),x=(ys,(a:Int),(m:Int),(b:Int),l)/\k=b-a/\a<m/\m<b/\b<=ys.length/\ys.length<=Qb/\uN l ys/\sJ l ys a m/\sJ l ys m b)
  (fun x r=>∃ a b:Nat,x.2.1=(a:Int)/\x.2.2.2.1=(b:Int)/\Pm x.1 r a b/\sJ l r a b) (by
  rintro k x ⟨ys,a,m,b,rfl,rfl,ham,hmb,hbl,hb,hall,hs1,hs2⟩ f g hfg
  unfold G.eu
  by_cases c1:m=a+1
  . subst c1
    obtain⟨zs,h1,h2,h3⟩:=Z4 hall hmb hbl hb hs2
    exact⟨zs,h1 f,h1 g,a,b,rfl,rfl,h2,h3⟩
  . by_cases c2:b=m+1
    . subst c2
      obtain⟨zs,h1,h2,h3⟩:=Z5 hall (by omega) hbl hb hs1
      exact⟨zs,h1 f,h1 g,a,m+1,rfl,rfl,h2,h3⟩
    . obtain⟨ws,s,e,c,h1,k1,k2,k3,k4,k5,k6,hp,t1,t2,t3,t4,hx⟩:=Z6 hall (by omega) (by omega) hbl hb hs1 hs2
      have hlen:=hp.len
      simp only[h1]
      obtain⟨us,hf,hg,hpu,hsu⟩:∃ us,(if a<s/\s<c then f (ws,(a:Int),(s:Int),(c:Int),l)else some ws)=some us/\(if a<s/\s<c then g (ws,(a:Int),(s:Int),(c:Int),l)else some ws)=some us/\Pm ws us a c/\sJ l us a c:=by
       by_cases h2:a<s/\s<c
       . obtain⟨r,hr1,hr2,a',b',q1,q2,q3,q4⟩:=hfg (c-a) (ws,(a:Int),(s:Int),(c:Int),l) (by omega) ⟨ws,a,s,c,rfl,rfl,h2.1,h2.2,by omega,by omega,hp.all hall,t1,t2⟩
         simp only at q1 q2 q3
         have e1:a'=a:=by omega
         have e2:b'=c:=by omega
         subst e1 e2
         exact⟨r,by rw[if_pos h2];exact hr1,by rw[if_pos h2];exact hr2,q3,q4⟩
       . refine⟨ws,by rw[if_neg h2],by rw[if_neg h2],Pm.refl _ _ _,?_⟩
         by_cases h3:s=a
         . rw[h3]at t2;exact t2
         . rw[show c=s by omega];exact t1
      have hlu:=hpu.len
      obtain⟨vs,hf2,hg2,hpv,hsv⟩:∃ vs,(if c<e/\e<b then f (us,(c:Int),(e:Int),(b:Int),l)else some us)=some vs/\(if c<e/\e<b then g (us,(c:Int),(e:Int),(b:Int),l)else some us)=some vs/\Pm us vs c b/\sJ l vs c b:=by
       by_cases h2:c<e/\e<b
       . obtain⟨r,hr1,hr2,a',b',q1,q2,q3,q4⟩:=hfg (b-c) (us,(c:Int),(e:Int),(b:Int),l) (by omega) ⟨us,c,e,b,rfl,rfl,h2.1,h2.2,by omega,by omega,hpu.all (hp.all hall),t3.sS hpu (.inr (Nat.le_refl _)),t4.sS hpu (.inr (by omega))⟩
         simp only at q1 q2 q3
         have e1:a'=c:=by omega
         have e2:b'=b:=by omega
         subst e1 e2
         exact⟨r,by rw[if_pos h2];exact hr1,by rw[if_pos h2];exact hr2,q3,q4⟩
       . refine⟨us,by rw[if_neg h2],by rw[if_neg h2],Pm.refl _ _ _,?_⟩
         by_cases h3:e=c
         . rw[h3]at t4;exact t4.sS hpu (.inr (Nat.le_refl _))
         . rw[show b=e by omega];exact t3.sS hpu (.inr (Nat.le_refl _))
      refine⟨vs,by rw[hf];exact hf2,by rw[hg];exact hg2,a,b,rfl,rfl,(hp.trans (hpu.mono (Nat.le_refl _) (by omega))).trans (hpv.mono (by omega) (Nat.le_refl _)),(hsu.sS hpv (.inl (Nat.le_refl _))).join hsv fun p q h2 h3 h4 h5=>?_⟩
      rw[hpv.out p (.inl h3)]
      obtain⟨p',hp1,hp2,e1⟩:=hpu.any (by omega) h2 h3
      obtain⟨q',hq1,hq2,e2⟩:=hpv.any (by omega) h4 h5
      rw[e1,e2,hpu.out q' (.inr hq1)]
      exact hx p' q' hp1 hp2 hq1 hq2) (k:=b-a) (x:=(ys,(a:Int),(m:Int),(b:Int),l)) ⟨ys,a,m,b,rfl,rfl,ham,hmb,hbl,hb,hall,hs1,hs2⟩
 simp only at ha' hb2 hp
 have e1:a'=a:=by omega
 have e2:b'=b:=by omega
 subst e1 e2
 exact⟨r,hr,hp,hs⟩
end
end G
end Go.Proofs.YtekpafdhgkocaaaGreat
namespace Go.Proofs.YtekpafdhgkocaaaGreat
open IntKind(i64)
open G
namespace G
section
variable {l:List G.Command}
def K9(l:List G.Command)(zs:List Int)(s lo n:Nat):Prop:=∀ k,sJ l zs (lo+k*s) (min (lo+k*s+s) n)
theorem K9.next{zs:List Int}{s lo n:Nat}(h:K9 l zs s lo n)(j:Nat):K9 l zs s (lo+j*s) n:=fun k=>by
 have:=h (j+k)
 rw[aZ]at this
 rwa[show lo+j*s+k*s=lo+(j*s+k*s)by omega]
theorem K9.sS{xs ys:List Int}{s lo n a b:Nat}(h:K9 l xs s lo n)(hp:Pm xs ys a b)(hb:b<=lo):K9 l ys s lo n:=fun k=>(h k).sS hp (.inr (by omega))
theorem K9.first{zs:List Int}{s lo n:Nat}(h:K9 l zs s lo n):sJ l zs lo (min (lo+s) n):=by have:=h 0;simpa using this
theorem K9.second{zs:List Int}{s lo n:Nat}(h:K9 l zs s lo n):sJ l zs (lo+s) (min (lo+s+s) n):=by have:=h 1;simpa using this
def HX(l:List G.Command)(zs:List Int)(s hi:Nat):Prop:=∀ k,k*s+s<=hi->sJ l zs (k*s) (k*s+s)
theorem HX.sS{xs ys:List Int}{s hi a b:Nat}(h:HX l xs s hi)(hp:Pm xs ys a b)(ha:hi<=a):HX l ys s hi:=fun k hk=>(h k hk).sS hp (.inl (by omega))
theorem Me{n s:Nat}{ys:List Int}{w:Int×List Int}(hw:w.1=(s:Int))(hall:uN l ys)(hn:n=ys.length)(hb:ys.length<=Qb)(hs:0<s)(hsn:s<n)(hB:K9 l ys s 0 n):
 ∃ (a:Nat) (zs:List Int),Iter (G.dr (n:Int) l w) (0,i64.wrap (2*w.1),ys)=some ((a:Int),zs)/\Pm ys zs 0 n/\(∃ t,a=t*(2*s))/\a<=n/\n<a+2*s/\HX l zs (2*s) a/\K9 l zs s a n:=by
 have hb':=hb
 rw[rO]at hb'
 have e2:i64.wrap (2*w.1)=((2*s:Nat):Int):=by rw[hw,fB (by omega) (by omega)];omega
 obtain⟨r,hr,a,zs,rfl,h⟩:=cu (f:=G.dr (n:Int) l w)
  (fun k st=>∃ (a:Nat) (zs:List Int),st=((a:Int),((a+2*s:Nat):Int),zs)/\k=n-a/\Pm ys zs 0 n/\(∃ t,a=t*(2*s))/\a<=n/\HX l zs (2*s) a/\K9 l zs s a n)
  (fun r=>∃ (a:Nat) (zs:List Int),r=((a:Int),zs)/\Pm ys zs 0 n/\(∃ t,a=t*(2*s))/\a<=n/\n<a+2*s/\HX l zs (2*s) a/\K9 l zs s a n) (by
   rintro k st ⟨a,zs,rfl,rfl,hp,⟨t,ht⟩,ha,hu,hbk⟩
   have hlen:=hp.len
   unfold G.dr
   by_cases hlt:a+2*s<=n
   . left
     rw[if_pos (show((a:Int),((a+2*s:Nat):Int),zs).2.1<=(n:Int)by simp;omega)]
     have e3:i64.wrap ((a:Int)+w.1)=((a+s:Nat):Int):=by rw[hw,fB (by omega) (by omega)];omega
     have e4:i64.wrap (((a+2*s:Nat):Int)+i64.wrap (2*w.1))=((a+2*s+2*s:Nat):Int):=by rw[e2,fB (by omega) (by omega)];omega
     have f1:=hbk.first
     have f2:=hbk.second
     rw[show min (a+s) n=a+s by omega]at f1
     rw[show min (a+s+s) n=a+2*s by omega]at f2
     obtain⟨ws,h1,h2,h3⟩:=Uv (l:=l) (ys:=zs) (a:=a) (m:=a+s) (b:=a+2*s) (hp.all hall) (by omega) (by omega) (by omega) (by omega) f1 f2
     simp only[e3,h1,ae,e4]
     refine⟨n-(a+2*s),_,rfl,by omega,a+2*s,ws,rfl,rfl,hp.trans (h2.mono (Nat.zero_le _) hlt),⟨t+1,by rw[aZ];omega⟩,hlt,fun k hk=>?_,?_⟩
     . by_cases hk2:k*(2*s)+2*s<=a
       . exact(hu.sS h2 (Nat.le_refl _)) k hk2
       . have:k=t:=by
          rcases Nat.lt_trichotomy k t with h|h|h
          . have h':=Nat.mul_le_mul_right (2*s) (show k+1<=t from h)
            rw[aZ]at h'
            omega
          . exact h
          . have h':=Nat.mul_le_mul_right (2*s) (show t+1<=k from h)
            rw[aZ]at h'
            omega
         subst this
         rw[<- ht];exact h3
     . have:=(hbk.next 2).sS h2 (by omega)
       exact this
   . right
     rw[if_neg (show ¬ ((a:Int),((a+2*s:Nat):Int),zs).2.1<=(n:Int)by simp;omega)]
     exact⟨_,rfl,a,zs,rfl,hp,⟨t,ht⟩,ha,by omega,hu,hbk⟩) n (0,i64.wrap (2*w.1),ys)
  ⟨0,ys,by rw[e2];simp,rfl,Pm.refl _ _ _,⟨0,by simp⟩,Nat.zero_le _,fun k hk=>by omega,hB⟩
 exact⟨a,zs,hr,h⟩
theorem Nn{zs:List Int}{s a n:Nat}(hs:0<s)(ht:∃ t,a=t*s)(hu:HX l zs s a)(hl:sJ l zs a (min (a+s) n))(hn:n<=a+s):K9 l zs s 0 n:=by
 obtain⟨t,rfl⟩:=ht
 intro k
 rw[aX]
 by_cases h1:k<t
 . have:(k+1)*s<=t*s:=Nat.mul_le_mul_right s h1
   rw[aZ]at this
   have h2:=hu k (by omega)
   exact fun p q h3 h4 h5=>h2 p q h3 h4 (by omega)
 . by_cases h2:k=t
   . subst h2;exact hl
   . have:(t+1)*s<=k*s:=Nat.mul_le_mul_right s (by omega)
     rw[aZ]at this
     exact fun p q h3 h4 h5=>by omega
theorem Km{n:Nat}{ys:List Int}(hall:uN l ys)(hn:n=ys.length)(hb:ys.length<=Qb):
 ∃ (a:Nat) (zs:List Int),Iter (G.dq (n:Int) l) (0,20,ys)=some ((a:Int),zs)/\Pm ys zs 0 n/\(∃ t,a=t*20)/\a<=n/\n<a+20/\HX l zs 20 a:=by
 have hb':=hb
 rw[rO]at hb'
 obtain⟨r,hr,a,zs,rfl,h⟩:=cu (f:=G.dq (n:Int) l)
  (fun k st=>∃ (a:Nat) (zs:List Int),st=((a:Int),((a+20:Nat):Int),zs)/\k=n-a/\Pm ys zs 0 n/\(∃ t,a=t*20)/\a<=n/\HX l zs 20 a)
  (fun r=>∃ (a:Nat) (zs:List Int),r=((a:Int),zs)/\Pm ys zs 0 n/\(∃ t,a=t*20)/\a<=n/\n<a+20/\HX l zs 20 a) (by
   rintro k st ⟨a,zs,rfl,rfl,hp,⟨t,ht⟩,ha,hu⟩
   have hlen:=hp.len
   unfold G.dq
   by_cases hlt:a+20<=n
   . left
     rw[if_pos (show((a:Int),((a+20:Nat):Int),zs).2.1<=(n:Int)by simp;omega)]
     have e4:i64.wrap (((a+20:Nat):Int)+20)=((a+20+20:Nat):Int):=by rw[fB (by omega) (by omega)];omega
     obtain⟨ws,h1,h2,h3⟩:=Dj (l:=l) (ys:=zs) (a:=a) (b:=a+20) (hp.all hall) (by omega) (by omega) (by omega)
     simp only[h1,ae,e4]
     refine⟨n-(a+20),_,rfl,by omega,a+20,ws,rfl,rfl,hp.trans (h2.mono (Nat.zero_le _) hlt),⟨t+1,by omega⟩,hlt,fun k hk=>?_⟩
     by_cases hk2:k*20+20<=a
     . exact(hu.sS h2 (Nat.le_refl _)) k hk2
     . have:k=t:=by omega
       subst this
       rw[<- ht];exact h3
   . right
     rw[if_neg (show ¬ ((a:Int),((a+20:Nat):Int),zs).2.1<=(n:Int)by simp;omega)]
     exact⟨_,rfl,a,zs,rfl,hp,⟨t,ht⟩,ha,by omega,hu⟩) n (0,20,ys)
  ⟨0,ys,rfl,rfl,Pm.refl _ _ _,⟨0,rfl⟩,Nat.zero_le _,fun k hk=>by omega⟩
 exact⟨a,zs,hr,h⟩
theorem Ru{ys:List Int}(hall:uN l ys)(hb:ys.length<=Qb):∃ zs,G.dY ys l=some zs/\zs.Perm ys/\sJ l zs 0 ys.length:=by
 have hb':=hb
 rw[rO]at hb'
 obtain⟨n,hn⟩:∃ n,n=ys.length:=⟨_,rfl⟩
 unfold G.dY G.iA
 rw[<- hn]
 obtain⟨a,zs,h1,hp,ht,ha1,ha2,hu⟩:=Km hall hn hb
 have hlen:=hp.len
 obtain⟨ws,h2,hp2,hs2⟩:=Dj (l:=l) (ys:=zs) (a:=a) (b:=n) (hp.all hall) ha1 (by omega) (by omega)
 have hB:K9 l ws 20 0 n:=Nn (by omega) ht (hu.sS hp2 (Nat.le_refl _)) (by rw[show min (a+20) n=n by omega];exact hs2) (by omega)
 rw[h1]
 simp only[ae,h2,JR]
 obtain⟨r,hr,h3,h4⟩:=cu (f:=G.eB (n:Int) l)
  (fun k st=>∃ (s:Nat) (zs:List Int),st=((s:Int),zs)/\k=n+20-s/\20<=s/\s<=2*n+20/\Pm ys zs 0 n/\K9 l zs s 0 n)
  (fun zs=>Pm ys zs 0 n/\sJ l zs 0 n) (by
   rintro k st ⟨s,zs,rfl,rfl,h5,h6,hp,hB⟩
   have hlen:=hp.len
   unfold G.eB
   by_cases hlt:s<n
   . left
     rw[if_pos (show((s:Int),zs).1<(n:Int)by simp;omega)]
     obtain⟨a,us,q1,q2,⟨t,q3⟩,q4,q5,q6,q7⟩:=Me (l:=l) (n:=n) (s:=s) (ys:=zs) (w:=((s:Int),zs)) rfl (hp.all hall) (by omega) (by omega) (by omega) hlt hB
     have hl2:=q2.len
     have e1:i64.wrap ((a:Int)+(s:Int))=((a+s:Nat):Int):=by rw[fB (by omega) (by omega)];omega
     have e2:i64.wrap ((s:Int)*2)=((2*s:Nat):Int):=by rw[fB (by omega) (by omega)];omega
     have f1:=q7.first
     have f2:=q7.second
     simp only[q1,ae,e1,e2]
     by_cases hm:a+s<n
     . rw[if_pos (by omega)]
       rw[show min (a+s) n=a+s by omega]at f1
       rw[show min (a+s+s) n=n by omega]at f2
       obtain⟨vs,g1,g2,g3⟩:=Uv (l:=l) (ys:=us) (a:=a) (m:=a+s) (b:=n) (q2.all (hp.all hall)) (by omega) hm (by omega) (by omega) f1 f2
       simp only[g1,ae]
       exact⟨n+20-2*s,_,rfl,by omega,2*s,vs,rfl,rfl,by omega,by omega,(hp.trans q2).trans (g2.mono (Nat.zero_le _) (Nat.le_refl _)),Nn (by omega) ⟨t,q3⟩ (q6.sS g2 (Nat.le_refl _)) (by rw[show min (a+2*s) n=n by omega];exact g3) (by omega)⟩
     . rw[if_neg (by omega)]
       rw[show min (a+s) n=n by omega]at f1
       exact⟨n+20-2*s,_,rfl,by omega,2*s,us,rfl,rfl,by omega,by omega,hp.trans q2,Nn (by omega) ⟨t,q3⟩ q6 (by rw[show min (a+2*s) n=n by omega];exact f1) (by omega)⟩
   . right
     rw[if_neg (show ¬ ((s:Int),zs).1<(n:Int)by simp;omega)]
     have:=hB.first
     rw[show min (0+s) n=n by omega]at this
     exact⟨_,rfl,hp,this⟩) n (20,ws)
  ⟨20,ws,rfl,by omega,by omega,by omega,hp.trans (hp2.mono (Nat.zero_le _) (Nat.le_refl _)),hB⟩
 exact⟨r,hr,h3.perm,h4⟩
def FV(n:Nat):List Int:=(List.range n).map fun k:Nat=>(k:Int)
theorem O7(l:List G.Command):uN l (FV l.length):=fun x hx=>by
 obtain⟨k,hk,rfl⟩:=List.mem_map.1 hx
 have:=List.mem_range.1 hk
 exact⟨by omega,by omega⟩
theorem Rq(h:l.length<=17592186044416):∃ ord,G.yC l=some (l,ord)/\ord.Perm (FV l.length)/\sJ l ord 0 l.length:=by
 unfold G.yC
 rw[zT (by omega)]
 have h1:Iter (G.rI l) (0,List.replicate l.length 0)=some (FV l.length):=by
  refine cD l.length (fun k=>((k:Int),(FV k)++List.replicate (l.length-k) 0)) _ (fun k hk=>?_) ?_ (by simp[FV])
  . unfold G.rI
    rw[if_pos (by simp;omega)]
    obtain⟨x,hx⟩:=uk (l:=FV k++List.replicate (l.length-k) (0:Int)) (i:=(k:Int)) (k:=k) rfl (by simp[FV];omega)
    simp only[hx,ae,dk hk (by omega),aK]
    congr 3
    rw[show FV (k+1)=FV k++[(k:Int)]by simp[FV,List.range_succ],List.set_append_right _ _ (by simp[FV])]
    rw[show l.length-k=(l.length-(k+1))+1 by omega,List.replicate_succ]
    simp[FV]
  . unfold G.rI
    rw[if_neg (by simp)]
    simp
 rw[aK,h1]
 simp only[ae]
 have hl:(FV l.length).length=l.length:=by simp[FV]
 obtain⟨zs,h2,h3,h4⟩:=Ru (l:=l) (O7 l) (by rw[hl,rO];omega)
 have hz:=h3.length_eq
 rw[h2]
 simp only[ae]
 exact⟨zs,rfl,h3,by rw[hl]at h4;exact h4⟩
end
end G
end Go.Proofs.YtekpafdhgkocaaaGreat
namespace Go.Proofs.YtekpafdhgkocaaaGreat
open IntKind(i64)
open G
namespace G
def Nb(l:List G.Command)(o:Int):Prop:=∃ c∈l,c.to<=o/\o<dK c
def zF(l:List G.Command):Prop:=∃ i j,i<l.length/\j<l.length/\i≠j/\ov (cat l i) (cat l j)=true
structure OC(l:List G.Command)(t:Int):Prop where
 pos:0<=t
 ZA:∀ o,0<=o->o<t->Nb l o
 not:¬ Nb l t
 aaK:t=0\/∃ c∈l,t=dK c
theorem yz{l:List G.Command}{i:Nat}(h:i<l.length):cat l i∈l:=by
 have:cat l i=l[i]:=by simp[cat,h]
 rw[this];exact az h
theorem FZ{l:List G.Command}{c:G.Command}(h:c∈l):∃ i,i<l.length/\cat l i=c:=by
 obtain⟨i,hi,e⟩:=List.getElem_of_mem h
 exact⟨i,hi,by rw[bT hi,e]⟩
structure Ord(l:List G.Command)(ord:List Int):Prop where
 perm:ord.Perm (FV l.length)
 srt:sJ l ord 0 l.length
theorem X6(l:List G.Command):∃ ord,Ord l ord:=by
 refine⟨(FV l.length).mergeSort fun x y=>decide (key l x<=key l y),List.mergeSort_perm _ _,fun p q _ hpq hq=>?_⟩
 have h:=List.pairwise_mergeSort (le:=fun x y=>decide (key l x<=key l y)) (fun a b c h1 h2=>aF (Int.le_trans (aG h1) (aG h2))) (fun a b=>by
  rw[Bool.or_eq_true,au,au];exact Int.le_total _ _) (FV l.length)
 have hl:((FV l.length).mergeSort fun x y=>decide (key l x<=key l y)).length=l.length:=by rw[(List.mergeSort_perm _ _).length_eq];simp[FV]
 have:=aG (a7.1 h p q (by omega) (by omega) hpq)
 rw[List.getD_eq_getElem?_getD,List.getD_eq_getElem?_getD,List.getElem?_eq_getElem (by omega),List.getElem?_eq_getElem (by omega)]
 exact this
section
variable {l:List G.Command}{ord:List Int}
theorem Ord.len(h:Ord l ord):ord.length=l.length:=by rw[h.perm.length_eq];simp[FV]
def vx(l:List G.Command)(ord:List Int)(k:Nat):G.Command:=cat l (ord.getD k 0).toNat
theorem Ord.ix(h:Ord l ord){k:Nat}(hk:k<l.length):Ix l (ord.getD k 0):=by
 have hl:=h.len
 refine uN.get (l:=l) (fun x hx=>?_) (by omega)
 exact O7 l x (h.perm.mem_iff.1 hx)
theorem Ord.le(h:Ord l ord){p q:Nat}(hpq:p<=q)(hq:q<l.length):(vx l ord p).to<=(vx l ord q).to:=by
 by_cases e:p=q
 . subst e;exact Int.le_refl _
 . exact h.srt p q (Nat.zero_le _) (by omega) hq
theorem Ord.inj(h:Ord l ord){p q:Nat}(hp:p<l.length)(hq:q<l.length)(e:(ord.getD p 0).toNat=(ord.getD q 0).toNat):p=q:=by
 have hl:=h.len
 have hn:ord.Nodup:=by
  rw[h.perm.nodup_iff]
  show List.Pairwise _ _
  unfold FV
  rw[List.pairwise_map]
  exact List.Pairwise.imp (fun h k=>h (by omega)) (List.nodup_range (n:=l.length))
 have i1:=(h.ix hp).1
 have i2:=(h.ix hq).1
 have e':ord.getD p 0=ord.getD q 0:=by omega
 have e1:ord.getD p 0=ord[p]:=by simp[show p<ord.length by omega]
 have e2:ord.getD q 0=ord[q]:=by simp[show q<ord.length by omega]
 rw[e1,e2]at e'
 have hpw:=a7.1 (show List.Pairwise (· ≠ ·) ord from hn)
 rcases Nat.lt_trichotomy p q with k|k|k
 . exact absurd e' (hpw p q _ _ k)
 . exact k
 . exact absurd e'.symm (hpw q p _ _ k)
theorem Ord.Yj(h:Ord l ord){i:Nat}(hi:i<l.length):∃ k,k<l.length/\(ord.getD k 0).toNat=i:=by
 have hl:=h.len
 have hm:(i:Int)∈ord:=h.perm.mem_iff.2 (List.mem_map.2 ⟨i,List.mem_range.2 hi,rfl⟩)
 obtain⟨k,hk,e⟩:=List.getElem_of_mem hm
 exact⟨k,by omega,by simp[hk,e]⟩
theorem Ord.mem(h:Ord l ord){k:Nat}(hk:k<l.length):vx l ord k∈l:=by
 have:=h.ix hk
 obtain⟨h1,h2⟩:=this
 exact yz (by omega)
theorem Ord.any(h:Ord l ord){c:G.Command}(hc:c∈l):∃ k,k<l.length/\vx l ord k=c:=by
 obtain⟨i,hi,e⟩:=FZ hc
 obtain⟨k,hk,e'⟩:=h.Yj hi
 exact⟨k,hk,by unfold vx;rw[e',e]⟩
structure Lb(l:List G.Command)(ord:List Int)(k:Nat)(e:Int):Prop where
 zero:k=0->e=0
 last:∀ j,k=j+1->e=dK (vx l ord j)
 apart:∀ p q,p<q->q<k->dK (vx l ord p)<=(vx l ord q).to
theorem Lb.le{k:Nat}{e:Int}(h:Lb l ord k e)(hg:∀ c∈l,0<=c.to/\1<=eh c)(ho:Ord l ord)(hk:k<=l.length){p:Nat}(hp:p<k):dK (vx l ord p)<=e:=by
 obtain⟨j,rfl⟩:∃ j,k=j+1:=⟨k-1,by omega⟩
 rw[h.last j rfl]
 by_cases e':p=j
 . subst e';exact Int.le_refl _
 . have h1:=h.apart p j (by omega) (by omega)
   have h2:=hg _ (ho.mem (k:=j) (by omega))
   unfold dK at *; omega
def Gap(l:List G.Command)(ord:List Int)(k:Nat)(e g:Int):Prop:=
 0<=e/\((g= -1/\∀ o,0<=o->o<e->∃ p,p<k/\(vx l ord p).to<=o/\o<dK (vx l ord p))\/
 (0<=g/\g<e/\(∀ o,0<=o->o<g->∃ p,p<k/\(vx l ord p).to<=o/\o<dK (vx l ord p))/\(∀ p,p<k->¬ ((vx l ord p).to<=g/\g<dK (vx l ord p)))/\(g=0\/∃ p,p<k/\g=dK (vx l ord p))))
theorem UD(hg:∀ c∈l,0<=c.to/\1<=eh c/\dK c<=4611686018427387903)(hn:l.length<=17592186044416):
 (zF l/\G.wR l=some (0,true))\/(¬ zF l/\∃ t,G.wR l=some (t,false)/\OC l t):=by
 obtain⟨ord,hs,hp,hsr⟩:=Rq hn
 have ho:Ord l ord:=⟨hp,hsr⟩
 have hlen:=ho.len
 unfold G.wR G.pK
 rw[hs]
 simp only[ae]
 obtain⟨r,hr,hq⟩:=cu (f:=G.kf ord l)
  (fun n st=>∃ (k:Nat) (e g:Int),st=((k:Int),0,false,e,g)/\n=l.length-k/\k<=l.length/\Lb l ord k e/\Gap l ord k e g)
  (fun r=>(∃ e g,r= .inl (0,true,e,g)/\zF l)\/∃ e g,r= .inr (0,false,e,g)/\Lb l ord l.length e/\Gap l ord l.length e g) (by
   rintro n st ⟨k,e,g,rfl,rfl,hk,hc,hgap⟩
   unfold G.kf G.zX
   by_cases hlt:k<l.length
   . have hix:=ho.ix hlt
     have hm:=ho.mem hlt
     have hgo:=hg _ hm
     rw[if_pos (show((k:Int),(0:Int),false,e,g).1<((ord.length:Nat):Int)by simp;omega)]
     simp only[eZ (0:Int) (show k<ord.length by omega),ae]
     rw[tL (k:=(ord.getD k 0).toNat) default (by have:=hix.1;omega) (by have h8:=hix.1;have h9:=hix.2;omega)]
     simp only[ae,tB]
     rw[show l.getD (ord.getD k 0).toNat default=vx l ord k from rfl]
     by_cases h1:(vx l ord k).to<e
     . right
       rw[if_pos h1]
       refine⟨_,rfl, .inl ⟨_,_,rfl,?_⟩⟩
       have hk0:k≠0:=fun h=>by have:=hc.zero h;omega
       have hl:=hc.last (k-1) (by omega)
       have hle:=ho.le (p:=k-1) (q:=k) (by omega) hlt
       have hix':=ho.ix (k:=k-1) (by omega)
       refine⟨(ord.getD (k-1) 0).toNat,(ord.getD k 0).toNat,by have h8:=hix'.1;have h9:=hix'.2;omega,by have h8:=hix.1;have h9:=hix.2;omega,fun h=>by have:=ho.inj (by omega) hlt h;omega,?_⟩
       show ov (vx l ord (k-1)) (vx l ord k)=true
       unfold ov
       rw[au]
       unfold dK at*
       omega
     . left
       rw[if_neg h1]
       have hnew:Lb l ord (k+1) (dK (vx l ord k)):=⟨fun h=>by omega,fun j hj=>by rw[show j=k by omega],fun p q hpq hqk=>by
        by_cases hq:q=k
        . subst hq
          have:=hc.le (fun c hc'=>⟨(hg c hc').1,(hg c hc').2.1⟩) ho (by omega) hpq
          omega
        . exact hc.apart p q hpq (by omega)⟩
       have e1:G.dB ⟨(vx l ord k).to,eh (vx l ord k)⟩=some (dK (vx l ord k)):=by
        unfold G.dB
        simp only
        rw[fB (by omega) (by unfold dK at hgo;omega)];rfl
       have e2:i64.wrap ((k:Int)+1)=((k+1:Nat):Int):=dk hlt (by omega)
       obtain⟨h0,hgp⟩:=hgap
       have he:e<dK (vx l ord k)\/e=(vx l ord k).to/\e<dK (vx l ord k):= .inl (by unfold dK;omega)
       have he':e<dK (vx l ord k):=by unfold dK;omega
       rcases hgp with⟨rfl,hcov⟩|⟨hg0,hge,hcov,hnot,hcand⟩
       . by_cases h2:(vx l ord k).to>e
         . simp only[h2,if_true,ae,show((-1:Int)<0)=True by simp,decide_true,e1,e2]
           refine⟨l.length-(k+1),_,rfl,by omega,k+1,_,e,rfl,rfl,by omega,hnew,by omega, .inr ⟨h0,he',fun o h3 h4=>?_,fun p hp'=>?_,?_⟩⟩
           . obtain⟨p,h5,h6⟩:=hcov o h3 h4
             exact⟨p,by omega,h6⟩
           . by_cases hpk:p=k
             . subst hpk;omega
             . have:=hc.le (fun c hc'=>⟨(hg c hc').1,(hg c hc').2.1⟩) ho (by omega) (p:=p) (by omega)
               omega
           . by_cases hk0:k=0
             . exact .inl (hc.zero hk0)
             . exact .inr ⟨k-1,by omega,hc.last (k-1) (by omega)⟩
         . simp only[h2,if_false,ae,aJ,e1,e2]
           refine⟨l.length-(k+1),_,rfl,by omega,k+1,_,-1,rfl,rfl,by omega,hnew,by omega, .inl ⟨rfl,fun o h3 h4=>?_⟩⟩
           by_cases h5:o<e
           . obtain⟨p,h6,h7⟩:=hcov o h3 h5
             exact⟨p,by omega,h7⟩
           . exact⟨k,by omega,by omega,h4⟩
       . have hng:¬ g<0:=by omega
         have hres:(if(vx l ord k).to>e then some (decide (g<0))else some false)=some false:=by
          split
          . rw[decide_eq_false hng]
          . rfl
         simp only[hres,ae,aJ,if_false,e1,e2]
         refine⟨l.length-(k+1),_,rfl,by omega,k+1,_,g,rfl,rfl,by omega,hnew,by omega, .inr ⟨hg0,by omega,fun o h3 h4=>?_,fun p hp'=>?_,?_⟩⟩
         . obtain⟨p,h5,h6⟩:=hcov o h3 h4
           exact⟨p,by omega,h6⟩
         . by_cases hpk:p=k
           . subst hpk;omega
           . exact hnot p (by omega)
         . rcases hcand with h|⟨p,h5,h6⟩
           . exact .inl h
           . exact .inr ⟨p,by omega,h6⟩
   . right
     rw[if_neg (show ¬ ((k:Int),(0:Int),false,e,g).1<((ord.length:Nat):Int)by simp;omega)]
     have:k=l.length:=by omega
     subst this
     exact⟨_,rfl, .inr ⟨e,g,rfl,hc,hgap⟩⟩) l.length (0,0,false,0,-1)
  ⟨0,0,-1,rfl,rfl,Nat.zero_le _,⟨fun _=>rfl,fun j hj=>by omega,fun p q h1 h2=>by omega⟩,Int.le_refl _, .inl ⟨rfl,fun o h1 h2=>by omega⟩⟩
 rcases hq with⟨_,_,rfl,hm⟩|⟨e,g,rfl,hc,h0,hgap⟩
 . left
   rw[hr]
   exact⟨hm,rfl⟩
 . right
   rw[hr]
   simp only[ae,nB]
   have hgl:∀ c∈l,0<=c.to/\1<=eh c:=fun c hc'=>⟨(hg c hc').1,(hg c hc').2.1⟩
   refine⟨fun⟨i,j,hi,hj,hne,hov⟩=>?_,?_⟩
   . obtain⟨p,hp1,hp2⟩:=ho.Yj hi
     obtain⟨q,hq1,hq2⟩:=ho.Yj hj
     have hpq:p≠q:=fun h=>hne (by rw[<- hp2,<- hq2,h])
     have k1:cat l i=vx l ord p:=by unfold vx;rw[hp2]
     have k2:cat l j=vx l ord q:=by unfold vx;rw[hq2]
     rw[k1,k2]at hov
     unfold ov at hov
     rw[au]at hov
     rcases Nat.lt_or_gt_of_ne hpq with h|h
     . have:=hc.apart p q h hq1;omega
     . have:=hc.apart q p h hp1;omega
   . rcases hgap with⟨rfl,hcov⟩|⟨hg0,hge,hcov,hnot,hcand⟩
     . rw[if_neg (by omega)]
       refine⟨e,rfl,h0,fun o h1 h2=>?_,fun⟨c,hcl,h1,h2⟩=>?_,?_⟩
       . obtain⟨p,h3,h4⟩:=hcov o h1 h2
         exact⟨_,ho.mem h3,h4⟩
       . obtain⟨k,hk,rfl⟩:=ho.any hcl
         have:=hc.le hgl ho (Nat.le_refl _) hk
         omega
       . by_cases hk0:l.length=0
         . exact .inl (hc.zero hk0)
         . exact .inr ⟨_,ho.mem (k:=l.length-1) (by omega),hc.last (l.length-1) (by omega)⟩
     . rw[if_pos (by omega)]
       refine⟨g,rfl,hg0,fun o h1 h2=>?_,fun⟨c,hcl,h1,h2⟩=>?_,?_⟩
       . obtain⟨p,h3,h4⟩:=hcov o h1 h2
         exact⟨_,ho.mem h3,h4⟩
       . obtain⟨k,hk,rfl⟩:=ho.any hcl
         exact hnot k hk ⟨h1,h2⟩
       . rcases hcand with h|⟨p,h3,h4⟩
         . exact .inl h
         . exact .inr ⟨_,ho.mem h3,h4⟩
end
end G
end Go.Proofs.YtekpafdhgkocaaaGreat
namespace Go.Proofs.YtekpafdhgkocaaaGreat
open IntKind(i64)
open G
namespace G
theorem Bb{l:List G.Command}:zF l↔∃ i,i<l.length/\Mv l i=true:=by
 have key:∀ i j,i<l.length->j<i->ov (cat l i) (cat l j)=true->∃ i,i<l.length/\Mv l i=true:=fun i j hi hj h=>by
  refine⟨i,hi,?_⟩
  unfold Mv
  rw[br]
  refine⟨cat l j,?_,h⟩
  rw[bT (by omega)]
  exact List.mem_take_iff_getElem.2 ⟨j,by omega,rfl⟩
 constructor
 . rintro⟨i,j,hi,hj,hne,h⟩
   rcases Nat.lt_or_gt_of_ne hne with k|k
   . exact key j i hj k (by rw[KL];exact h)
   . exact key i j hi k h
 . rintro⟨i,hi,h⟩
   unfold Mv at h
   rw[br]at h
   obtain⟨c,hc,h⟩:=h
   obtain⟨j,hj,rfl⟩:=List.mem_take_iff_getElem.1 hc
   refine⟨i,j,hi,by omega,by omega,?_⟩
   rw[bT (i:=j) (by omega)];exact h
section
variable {d:G.Delta}
theorem Hr(hg:∀ c∈d.commands,Good d c)(hn:d.commands.length<=17592186044416){i:Nat}(hi:i<d.commands.length):
 Iter (G.l8 d.commands (i:Int) (d.commands.take i)) 0=some (if Mv d.commands i=true then .inr (i:Int)else .inl ((i+1:Nat):Int)):=by
 have hl:(d.commands.take i).length=i:=by simp;omega
 have hK:=iE (f:=G.l8 d.commands (i:Int) (d.commands.take i)) (d.commands.take i) (fun c=>ov (cat d.commands i) c) (fun k=>(k:Int)) (fun _=> .inr (i:Int)) (.inl ((i+1:Nat):Int))
  (fun k h hb=>by
   obtain⟨e,he⟩:=Gj (hg _ (yz hi)) (hg _ (List.mem_of_mem_take (az h)))
   unfold G.l8
   rw[if_pos (by omega),cH h,eZ default hi]
   simp only[ae,tB,he,hb,aJ,if_false]
   rw[dk (n:=17592186044417) (by omega) (by omega)])
  (fun k h hb=>by
   obtain⟨e,he⟩:=Gj (hg _ (yz hi)) (hg _ (List.mem_of_mem_take (az h)))
   unfold G.l8
   rw[if_pos (by omega),cH h,eZ default hi]
   simp only[ae,tB,he,hb,if_true])
  (by unfold G.l8;rw[if_neg (by omega),dk (n:=17592186044417) (by omega) (by omega)]) (s:=0) rfl
 rcases hK with⟨ha,he⟩|⟨k,h,hb,_,he⟩
 . rw[he,if_neg]
   unfold Mv;rw[br]
   rintro⟨c,hc,h⟩
   rw[ha c hc]at h;cases h
 . rw[he,if_pos]
   unfold Mv;rw[br]
   exact⟨_,az h,hb⟩
theorem Fb(hg:∀ c∈d.commands,Good d c)(hn:d.commands.length<=17592186044416){i:Nat}(hi:i<d.commands.length):
 Iter (G.iG d (i:Int)) 0=some (if Mv d.commands i=true then .inr (.inr (4,(i:Int)))else .inl ((i+1:Nat):Int)):=by
 have hl:(d.commands.take i).length=i:=by simp;omega
 have hK:=iE (f:=G.iG d (i:Int)) (d.commands.take i) (fun c=>ov (cat d.commands i) c) (fun k=>(k:Int)) (fun _=> .inr (.inr (4,(i:Int)))) (.inl ((i+1:Nat):Int))
  (fun k h hb=>by
   obtain⟨e,he,he2⟩:=E1 (hg _ (yz hi)) (hg _ (List.mem_of_mem_take (az h)))
   have hk:(d.commands.take i)[k]=d.commands[k]'(by omega):=List.getElem_take
   rw[hk]at he he2 hb
   unfold G.iG
   rw[if_pos (by omega),eZ default hi,cH (show k<d.commands.length by omega)]
   simp only[ae,vF,he]
   rw[if_neg (by rw[hb]at he2;simpa using he2),dk (n:=17592186044417) (by omega) (by omega)])
  (fun k h hb=>by
   obtain⟨e,he,he2⟩:=E1 (hg _ (yz hi)) (hg _ (List.mem_of_mem_take (az h)))
   have hk:(d.commands.take i)[k]=d.commands[k]'(by omega):=List.getElem_take
   rw[hk]at he he2 hb
   unfold G.iG
   rw[if_pos (by omega),eZ default hi,cH (show k<d.commands.length by omega)]
   simp only[ae,vF,he]
   rw[if_pos (by rw[hb]at he2;simpa using he2)])
  (by unfold G.iG;rw[if_neg (by omega),dk (n:=17592186044417) (by omega) (by omega)]) (s:=0) rfl
 rcases hK with⟨ha,he⟩|⟨k,h,hb,_,he⟩
 . rw[he,if_neg]
   unfold Mv;rw[br]
   rintro⟨c,hc,h⟩
   rw[ha c hc]at h;cases h
 . rw[he,if_pos]
   unfold Mv;rw[br]
   exact⟨_,az h,hb⟩
def AW(l:List G.Command)(i:Nat):Prop:=i<l.length/\Mv l i=true/\∀ j,j<i->Mv l j=false
theorem AW.unique{l:List G.Command}{i j:Nat}(h:AW l i)(k:AW l j):i=j:=by
 rcases Nat.lt_trichotomy i j with q|q|q
 . have:=k.2.2 i q;rw[h.2.1]at this;cases this
 . exact q
 . have:=h.2.2 j q;rw[k.2.1]at this;cases this
theorem N6(hg:∀ c∈d.commands,Good d c)(hn:d.commands.length<=17592186044416)(hm:zF d.commands):
 ∃ i,AW d.commands i/\G.xr d.commands=some (i:Int):=by
 have hK:=iE (f:=G.np d.commands) (List.range d.commands.length) (fun i=>Mv d.commands i) (fun k=>(k:Int)) (fun k=>(k:Int)) (-1)
  (fun k h hb=>by
   simp at h hb
   unfold G.np
   rw[if_pos (by omega),yb (by omega)]
   simp only[ae,aK]
   rw[Hr hg hn h,hb];rfl)
  (fun k h hb=>by
   simp at h hb
   unfold G.np
   rw[if_pos (by omega),yb (by omega)]
   simp only[ae,aK]
   rw[Hr hg hn h,hb];rfl)
  (by unfold G.np;simp) (s:=0) rfl
 unfold G.xr
 rcases hK with⟨ha,he⟩|⟨k,h,hb,hj,he⟩
 . obtain⟨i,hi,h⟩:=Bb.1 hm
   have:=ha i (List.mem_range.2 hi)
   rw[h]at this;cases this
 . simp at h hb
   exact⟨k,⟨h,hb,fun j hjk=>by simpa using hj j hjk⟩,he⟩
theorem Aq(hg:∀ c∈d.commands,Good d c)(hn:d.commands.length<=17592186044416):
 (¬ zF d.commands/\Iter (G.fU d) 0=some (.inl ()))\/(zF d.commands/\∃ i,AW d.commands i/\Iter (G.fU d) 0=some (.inr (4,(i:Int)))):=by
 have hK:=iE (f:=G.fU d) (List.range d.commands.length) (fun i=>Mv d.commands i) (fun k=>(k:Int)) (fun k=> .inr (4,(k:Int))) (.inl ())
  (fun k h hb=>by
   simp at h hb
   unfold G.fU
   rw[if_pos (by omega),Fb hg hn h,hb];rfl)
  (fun k h hb=>by
   simp at h hb
   unfold G.fU
   rw[if_pos (by omega),Fb hg hn h,hb];rfl)
  (by unfold G.fU;simp) (s:=0) rfl
 rcases hK with⟨ha,he⟩|⟨k,h,hb,hj,he⟩
 . refine .inl ⟨fun hm=>?_,he⟩
   obtain⟨i,hi,h⟩:=Bb.1 hm
   have:=ha i (List.mem_range.2 hi)
   rw[h]at this;cases this
 . simp at h hb
   exact .inr ⟨Bb.2 ⟨k,h,hb⟩,k,⟨h,hb,fun j hjk=>by simpa using hj j hjk⟩,he⟩
theorem Gg(hg:∀ c∈d.commands,Good d c)(hn:d.commands.length<=17592186044416)(o:Int):∃ r,G.kY d o=some r/\(r<0↔¬ Nb d.commands o)/\(0<=r->∃ k:Nat,∃ h:k<d.commands.length,r=(k:Int)/\d.commands[k].to<=o/\o<dK d.commands[k]):=by
 have hh:∀ c∈d.commands,G.sQ c o=some (decide (c.to<=o/\o<dK c)):=fun c hc=>by
  have h1:=hg c hc
  unfold G.sQ G.vN
  have:=h1.DL;have:=h1.max;have:=h1.ot
  simp only[vF,ae]
  unfold dK at*
  rw[fB (by omega) (by omega)]
  by_cases h:o≥c.to
  . rw[if_pos h];simp only[ae];congr 1;rw[bg];omega
  . rw[if_neg h];simp only[ae];congr 1;symm;rw[bh];omega
 have hK:=iE (f:=G.mh d o) d.commands (fun c=>decide (c.to<=o/\o<dK c)) (fun k=>(k:Int)) (fun k=>(k:Int)) (-1)
  (fun k h hb=>by
   unfold G.mh
   rw[if_pos (by omega),cH h]
   simp only[ae,hh _ (az h),hb,aJ,if_false]
   rw[dk (n:=17592186044417) (by omega) (by omega)])
  (fun k h hb=>by
   unfold G.mh
   rw[if_pos (by omega),cH h]
   simp only[ae,hh _ (az h),hb,if_true])
  (by unfold G.mh;simp) (s:=0) rfl
 unfold G.kY
 rcases hK with⟨ha,he⟩|⟨k,h,hb,hj,he⟩
 . refine⟨-1,he,?_,fun h=>by omega⟩
   refine⟨fun _ ⟨c,hc,h⟩=>?_,fun _=>by omega⟩
   have:=ha c hc
   simp only[bh]at this
   exact this h
 . refine⟨(k:Int),he,⟨fun h=>by omega,fun hnc=>absurd ⟨_,az h,by simpa using hb⟩ hnc⟩,fun _=>⟨k,h,rfl,by simpa using hb⟩⟩
theorem RR(hg:∀ c∈d.commands,Good d c)(hn:d.commands.length<=17592186044416)(o:Int):∃ r,G.kY d o=some r/\(r<0↔¬ Nb d.commands o):=by
 obtain⟨r,h1,h2,_⟩:=Gg hg hn o
 exact⟨r,h1,h2⟩
theorem FP(hg:∀ c∈d.commands,Good d c)(hn:d.commands.length<=17592186044416){t:Int}(ht:OC d.commands t):
 G.sO d=some (if t<d.b5 then t else -1):=by
 unfold G.sO
 obtain⟨r,hr,hq⟩:=cu (f:=G.sP d)
  (fun m st=>∃ (k:Nat) (out:Int),st=(out,(k:Int)-1)/\m=d.commands.length+1-k/\k<=d.commands.length+1/\(out= -1\/(t<=out/\out<d.b5))/\(t<d.b5->(0<k/\t=0\/∃ j,j+1<k/\t=dK (cat d.commands j))->out=t))
  (fun r=>r=if t<d.b5 then t else -1) (by
   rintro m st ⟨k,out,rfl,rfl,hk,h1,h2⟩
   unfold G.sP
   by_cases hlt:k<d.commands.length+1
   . left
     rw[if_pos (show(out,(k:Int)-1).2<(d.commands.length:Int)by simp;omega)]
     obtain⟨v,hv,hv0,hvc⟩:∃ v,(if(out,(k:Int)-1).2≥0 then(idx d.commands (out,(k:Int)-1).2).bind fun x2=>(idx d.commands (out,(k:Int)-1).2).bind fun x3=>(G.kj x3).bind fun y2=>some (i64.wrap (x2.to+y2))else some 0)=some v/\0<=v/\(k=0/\v=0\/∃ j,j+1=k/\v=dK (cat d.commands j)):=by
      by_cases hk0:k=0
      . subst hk0
        exact⟨0,by rw[if_neg (by simp)],Int.le_refl _, .inl ⟨rfl,rfl⟩⟩
      . have hgo:=hg _ (yz (l:=d.commands) (i:=k-1) (by omega))
        rw[if_pos (by simp;omega)]
        simp only[tL (k:=k-1) default (show(k:Int)-1=((k-1:Nat):Int)by omega) (show k-1<d.commands.length by omega),ae,FE]
        have:=hgo.DL;have:=hgo.max;have:=hgo.ot
        refine⟨dK (cat d.commands (k-1)),?_,by unfold dK at *; omega, .inr ⟨k-1,by omega,rfl⟩⟩
        unfold dK at*
        show some (i64.wrap ((cat d.commands (k-1)).to+eh (cat d.commands (k-1))))=_
        rw[fB (by omega) (by omega)]
     rw[hv]
     obtain⟨f,hf,hfc⟩:=RR hg hn v
     obtain⟨b,hb,hbi⟩:∃ b,(if v<d.b5 then(G.kY d v).bind fun y1=>if y1<0 then(if(out,(k:Int)-1).1<0 then some true else some (decide (v<(out,(k:Int)-1).1)))else some false else some false)=some b/\(b=true↔v<d.b5/\¬ Nb d.commands v/\(out<0\/v<out)):=by
      by_cases c1:v<d.b5
      . rw[if_pos c1,hf]
        simp only[ae]
        by_cases c2:f<0
        . rw[if_pos c2]
          have c2':=hfc.1 c2
          by_cases c3:out<0
          . exact⟨true,by rw[if_pos c3],by simp[c1,c2',c3]⟩
          . exact⟨_,by rw[if_neg c3],by simp[c1,c2',c3]⟩
        . exact⟨false,by rw[if_neg c2],by simp only[aJ,false_iff];exact fun h=>c2 (hfc.2 h.2.1)⟩
      . exact⟨false,by rw[if_neg c1],by simp[c1]⟩
     simp only[ae]
     rw[hb]
     simp only[ae]
     have hw:i64.wrap ((k:Int)-1+1)=((k+1:Nat):Int)-1:=by rw[fB (by omega) (by omega)];omega
     have hvt:¬ Nb d.commands v->t<=v:=fun h=>by
      refine Int.not_lt.1 fun hlt'=>h (ht.ZA v hv0 hlt')
     by_cases hbt:b=true
     . have hb':=hbi.1 hbt
       rw[if_pos hbt,hw]
       refine⟨d.commands.length+1-(k+1),_,rfl,by omega,k+1,v,rfl,rfl,by omega, .inr ⟨hvt hb'.2.1,hb'.1⟩,fun htn hc=>?_⟩
       have h3:=hvt hb'.2.1
       have key:(0<k/\t=0\/∃ j,j+1<k/\t=dK (cat d.commands j))->v=t:=fun hc=>by
        have q1:=h2 htn hc
        have q2:=ht.pos
        have q3:=hb'.2.2
        clear hvc hc h2
        omega
       rcases hc with⟨_,h0⟩|⟨j,hj,hjt⟩
       . rcases hvc with⟨h4,h5⟩|⟨j,h4,h5⟩
         . omega
         . exact key (.inl ⟨by omega,h0⟩)
       . by_cases hjk:j+1=k
         . rcases hvc with⟨h4,h5⟩|⟨j',h4,h5⟩
           . omega
           . have:j'=j:=by omega
             subst this;omega
         . exact key (.inr ⟨j,by omega,hjt⟩)
     . have hb':=fun h=>hbt (hbi.2 h)
       rw[if_neg hbt,hw]
       refine⟨d.commands.length+1-(k+1),_,rfl,by omega,k+1,out,rfl,rfl,by omega,h1,fun htn hc=>?_⟩
       have hvis:v=t->out=t:=fun hvt'=>by
        have:=ht.pos
        have h6:¬ (out<0\/v<out):=fun h=>hb' ⟨by clear hvc hc h2;omega,by rw[hvt'];exact ht.not,h⟩
        clear hvc hc h2
        omega
       rcases hc with⟨_,h0⟩|⟨j,hj,hjt⟩
       . rcases hvc with⟨h4,h5⟩|⟨j,h4,h5⟩
         . exact hvis (by omega)
         . exact h2 htn (.inl ⟨by omega,h0⟩)
       . by_cases hjk:j+1=k
         . rcases hvc with⟨h4,h5⟩|⟨j',h4,h5⟩
           . omega
           . have:j'=j:=by omega
             subst this
             exact hvis (by omega)
         . exact h2 htn (.inr ⟨j,by omega,hjt⟩)
   . right
     rw[if_neg (show ¬ (out,(k:Int)-1).2<(d.commands.length:Int)by simp;omega)]
     refine⟨_,rfl,?_⟩
     by_cases htn:t<d.b5
     . rw[if_pos htn]
       refine h2 htn ?_
       rcases ht.aaK with h|⟨c,hc,h⟩
       . exact .inl ⟨by omega,h⟩
       . obtain⟨i,hi,rfl⟩:=FZ hc
         exact .inr ⟨i,by omega,h⟩
     . rw[if_neg htn]
       rcases h1 with h|h
       . exact h
       . omega) (d.commands.length+1) ((-1),(-1))
  ⟨0,-1,by simp,by omega,by omega, .inl rfl,fun _ h=>by rcases h with h|⟨j,h,_⟩<;>omega⟩
 rw[hr,hq]
end
def JH(d:G.Delta):Prop:=0<=d.dC/\d.dC<=4611686018427387903/\0<=d.b5/\d.b5<=4611686018427387903
instance (d:G.Delta):Decidable (JH d):=by unfold JH;infer_instance
def OB(d:G.Delta)(e p:Int):Prop:=
 (¬ JH d/\e=2/\p= -1)\/(JH d/\∃ i,i<d.commands.length/\(∀ j,j<i->Good d (cat d.commands j))/\¬ Good d (cat d.commands i)/\e=MT d (cat d.commands i)/\p=i)\/
 (JH d/\(∀ c∈d.commands,Good d c)/\zF d.commands/\∃ i:Nat,AW d.commands i/\e=4/\p=i)\/
 (JH d/\(∀ c∈d.commands,Good d c)/\¬ zF d.commands/\∃ t,OC d.commands t/\((t<d.b5/\e=3/\p=t)\/(¬ t<d.b5/\e=0/\p=0)))
theorem aaI{d:G.Delta}(hn:d.commands.length<=17592186044416):∃ e p,OB d e p/\G.E8 d=some ⟨e,p⟩/\G.l9 d=some (e,p):=by
 have h1:((G.rp d.dC).bind fun y4=>if y4=false then some true else(G.rp d.b5).bind fun y5=>some (!y5))=some (decide (¬ JH d)):=by
  unfold G.rp JH
  simp only[Lj,ae]
  by_cases a:K6 0 d.dC=true
  . rw[a,if_neg (by simp)]
    congr 1
    have a':=xg.1 a
    by_cases b:K6 0 d.b5=true
    . have b':=xg.1 b
      rw[b];symm;exact decide_eq_false (fun h=>h (by omega))
    . have b':=fun h=>b (xg.2 h)
      rw[show K6 0 d.b5=false by simpa using b];symm;exact aF (fun h=>b' (by omega))
  . have a':=fun h=>a (xg.2 h)
    rw[show K6 0 d.dC=false by simpa using a,if_pos rfl]
    congr 1;symm;exact aF (fun h=>a' (by omega))
 have h2:(if d.dC<0 then some true else if d.b5<0 then some true else(G.eY).bind fun y6=>if d.dC>y6 then some true else(G.eY).bind fun y7=>some (decide (d.b5>y7)))=some (decide (¬ JH d)):=by
  unfold G.eY JH
  simp only[ae]
  split
  . congr 1;symm;rw[au];omega
  . split
    . congr 1;symm;rw[au];omega
    . split
      . congr 1;symm;rw[au];omega
      . congr 1;rw[bg];omega
 unfold G.E8 G.l9
 rw[h1,h2]
 by_cases hr:JH d
 . simp only[hr,not_true_eq_false,decide_false,ae,aJ,if_false]
   have hA:=iE (f:=G.pJ d) d.commands (fun c=>decide (MT d c≠0)) (fun k=>(k:Int)) (fun k=> .inr (⟨MT d (cat d.commands k),(k:Int)⟩:G.vD)) (.inl ())
    (fun k h hb=>by
     unfold G.pJ
     rw[if_pos (by omega),cH h]
     simp only[ae,Jy]
     rw[if_neg (by simpa using hb),dk (n:=17592186044417) (by omega) (by omega)])
    (fun k h hb=>by
     unfold G.pJ
     rw[if_pos (by omega),cH h]
     simp only[ae,Jy]
     rw[if_pos (by simpa using hb),bT h])
    (by unfold G.pJ;simp) (s:=0) rfl
   have hB:=iE (f:=G.eF d) d.commands (fun c=>decide (MT d c≠0)) (fun k=>(k:Int)) (fun k=> .inr (MT d (cat d.commands k),(k:Int))) (.inl ())
    (fun k h hb=>by
     unfold G.eF
     rw[if_pos (by omega),cH h]
     simp only[ae,ze]
     rw[if_neg (by simpa using hb),dk (n:=17592186044417) (by omega) (by omega)])
    (fun k h hb=>by
     unfold G.eF
     rw[if_pos (by omega),cH h]
     simp only[ae,ze]
     rw[if_pos (by simpa using hb),bT h])
    (by unfold G.eF;simp) (s:=0) rfl
   rcases hA with⟨ha,he⟩|⟨k,h,hb,hj,he⟩
   . rcases hB with⟨_,hf⟩|⟨k,h,hb,_,_⟩
     . have hg:∀ c∈d.commands,Good d c:=fun c hc=>wh.1 (by simpa using ha c hc)
       simp only[he,hf,ae,nB]
       rcases UD (l:=d.commands) (fun c hc=>⟨(hg c hc).DL,(hg c hc).ot,(hg c hc).max⟩) hn with⟨hm,ht⟩|⟨hm,t,ht,hte⟩
       . obtain⟨i,hi,ho⟩:=N6 hg hn hm
         rcases Aq hg hn with⟨hm',_⟩|⟨_,j,hj,ho'⟩
         . exact absurd hm hm'
         . have:=hi.unique hj
           subst this
           refine⟨4,(i:Int), .inr (.inr (.inl ⟨hr,hg,hm,i,hi,rfl,rfl⟩)),?_,?_⟩
           . rw[ht];simp only[ae,if_true,ho]
           . rw[ho'];rfl
       . rcases Aq hg hn with⟨_,ho'⟩|⟨hm',_⟩
         . have:=hte.pos
           by_cases hlt:t<d.b5
           . refine⟨3,t, .inr (.inr (.inr ⟨hr,hg,hm,t,hte, .inl ⟨hlt,rfl,rfl⟩⟩)),?_,?_⟩
             . rw[ht];simp[hlt]
             . rw[ho'];simp only[ae,nB,FP hg hn hte,if_pos hlt];rw[if_pos (by omega)]
           . refine⟨0,0, .inr (.inr (.inr ⟨hr,hg,hm,t,hte, .inr ⟨hlt,rfl,rfl⟩⟩)),?_,?_⟩
             . rw[ht];simp[hlt]
             . rw[ho'];simp only[ae,nB,FP hg hn hte,if_neg hlt];rw[if_neg (by omega)]
         . exact absurd hm' hm
     . have:=ha _ (az h)
       rw[hb]at this;cases this
   . rcases hB with⟨ha,_⟩|⟨k',h',hb',hj',hf⟩
     . have:=ha _ (az h)
       rw[hb]at this;cases this
     . have:k=k':=by
        rcases Nat.lt_trichotomy k k' with q|q|q
        . have:=hj' k q;rw[hb]at this;cases this
        . exact q
        . have:=hj k' q;rw[hb']at this;cases this
       subst this
       refine⟨MT d (cat d.commands k),(k:Int), .inr (.inl ⟨hr,k,h,fun j hjk=>?_,?_,rfl,rfl⟩),?_,?_⟩
       . rw[bT (by omega)];exact wh.1 (by simpa using hj j hjk)
       . rw[bT h];exact Um.1 (by simpa using hb)
       . rw[he];rfl
       . rw[hf];rfl
 . exact⟨2,-1, .inl ⟨hr,rfl,rfl⟩,by simp[hr],by simp[hr]⟩
structure VD(d:G.Delta):Prop where
 PA:JH d
 qq:∀ c∈d.commands,Good d c
 apart:¬ zF d.commands
 full:∀ o,0<=o->o<d.b5->Nb d.commands o
theorem OB.zero{d:G.Delta}{e p:Int}(h:OB d e p):(e=0↔VD d)/\(e=0->p=0):=by
 rcases h with⟨h1,rfl,rfl⟩|⟨h1,i,hi,_,hb,rfl,rfl⟩|⟨h1,h2,h3,i,_,rfl,rfl⟩|⟨h1,h2,h3,t,ht,⟨h4,rfl,rfl⟩|⟨h4,rfl,rfl⟩⟩
 . exact⟨⟨fun h=>by omega,fun h=>absurd h.PA h1⟩,fun h=>by omega⟩
 . exact⟨⟨fun h=>absurd (wh.1 h) hb,fun h=>absurd (h.qq _ (yz hi)) hb⟩,fun h=>absurd (wh.1 h) hb⟩
 . exact⟨⟨fun h=>by omega,fun h=>absurd h3 h.apart⟩,fun h=>by omega⟩
 . exact⟨⟨fun h=>by omega,fun h=>absurd (h.full p ht.pos h4) ht.not⟩,fun h=>by omega⟩
 . exact⟨⟨fun _=>⟨h1,h2,h3,fun o h5 h6=>ht.ZA o h5 (by omega)⟩,fun _=>rfl⟩,fun _=>rfl⟩
theorem Xn{d:G.Delta}(hg:∀ c∈d.commands,Good d c):∃ t,OC d.commands t:=by
 have hbig:∃ n:Nat,¬ Nb d.commands (n:Int):=⟨4611686018427387904,fun⟨c,hc,_,h2⟩=>by have:=(hg c hc).max;omega⟩
 have hmin:∀ n:Nat,¬ Nb d.commands (n:Int)->∃ m:Nat,¬ Nb d.commands (m:Int)/\∀ k,k<m->Nb d.commands (k:Int):=fun n=>by
  induction n using Nat.strongRecOn with
  | _ n ih=>
    intro h
    by_cases hc:∀ k,k<n->Nb d.commands (k:Int)
    . exact⟨n,h,hc⟩
    . obtain⟨k,hk⟩:=Classical.not_forall.1 hc
      rw[Classical.not_imp]at hk
      exact ih k hk.1 hk.2
 obtain⟨n,hn⟩:=hbig
 obtain⟨m,h1,h2⟩:=hmin n hn
 refine⟨(m:Int),by omega,fun o h3 h4=>?_,h1,?_⟩
 . have:=h2 o.toNat (by omega)
   rw[Int.toNat_of_nonneg h3]at this;exact this
 . cases m with
   | zero=>exact .inl rfl
   | succ m=>
     obtain⟨c,hc,k1,k2⟩:=h2 m (by omega)
     refine .inr ⟨c,hc,?_⟩
     refine aQ fun he=>h1 ⟨c,hc,by omega,by omega⟩
theorem UR{d:G.Delta}(hn:d.commands.length<=17592186044416):∃ e p,OB d e p/\G.l9 d=some (e,p):=by
 have h2:(if d.dC<0 then some true else if d.b5<0 then some true else(G.eY).bind fun y6=>if d.dC>y6 then some true else(G.eY).bind fun y7=>some (decide (d.b5>y7)))=some (decide (¬ JH d)):=by
  unfold G.eY JH
  simp only[ae]
  split
  . congr 1;symm;rw[au];omega
  . split
    . congr 1;symm;rw[au];omega
    . split
      . congr 1;symm;rw[au];omega
      . congr 1;rw[bg];omega
 unfold G.l9
 rw[h2]
 by_cases hr:JH d
 . simp only[hr,not_true_eq_false,decide_false,ae,aJ,if_false]
   have hB:=iE (f:=G.eF d) d.commands (fun c=>decide (MT d c≠0)) (fun k=>(k:Int)) (fun k=> .inr (MT d (cat d.commands k),(k:Int))) (.inl ())
    (fun k h hb=>by
     unfold G.eF
     rw[if_pos (by omega),cH h]
     simp only[ae,ze]
     rw[if_neg (by simpa using hb),dk (n:=17592186044417) (by omega) (by omega)])
    (fun k h hb=>by
     unfold G.eF
     rw[if_pos (by omega),cH h]
     simp only[ae,ze]
     rw[if_pos (by simpa using hb),bT h])
    (by unfold G.eF;simp) (s:=0) rfl
   rcases hB with⟨ha,hf⟩|⟨k,h,hb,hj,hf⟩
   . have hg:∀ c∈d.commands,Good d c:=fun c hc=>wh.1 (by simpa using ha c hc)
     simp only[hf,ae,nB]
     rcases Aq hg hn with⟨hm,ho'⟩|⟨hm,j,hj,ho'⟩
     . obtain⟨t,hte⟩:=Xn hg
       have:=hte.pos
       by_cases hlt:t<d.b5
       . refine⟨3,t, .inr (.inr (.inr ⟨hr,hg,hm,t,hte, .inl ⟨hlt,rfl,rfl⟩⟩)),?_⟩
         rw[ho'];simp only[ae,nB,FP hg hn hte,if_pos hlt];rw[if_pos (by omega)]
       . refine⟨0,0, .inr (.inr (.inr ⟨hr,hg,hm,t,hte, .inr ⟨hlt,rfl,rfl⟩⟩)),?_⟩
         rw[ho'];simp only[ae,nB,FP hg hn hte,if_neg hlt];rw[if_neg (by omega)]
     . refine⟨4,(j:Int), .inr (.inr (.inl ⟨hr,hg,hm,j,hj,rfl,rfl⟩)),?_⟩
       rw[ho'];rfl
   . refine⟨MT d (cat d.commands k),(k:Int), .inr (.inl ⟨hr,k,h,fun j hjk=>?_,?_,rfl,rfl⟩),?_⟩
     . rw[bT (by omega)];exact wh.1 (by simpa using hj j hjk)
     . rw[bT h];exact Um.1 (by simpa using hb)
     . rw[hf];rfl
 . exact⟨2,-1, .inl ⟨hr,rfl,rfl⟩,by simp[hr]⟩
theorem Gn{d:G.Delta}(hn:d.commands.length<=17592186044416):∃ b,G.ny d=some b/\(b=true↔VD d):=by
 obtain⟨e,p,h1,h3⟩:=UR hn
 unfold G.ny
 rw[h3]
 simp only[ae]
 exact⟨decide (e=0),by congr 1,by rw[au];exact h1.zero.1⟩
end G
end Go.Proofs.YtekpafdhgkocaaaGreat
namespace Go.Proofs.YtekpafdhgkocaaaGreat
open IntKind(i64)
open G
namespace G
def Qt(d:G.Delta):Bool:=d.commands.all (fun c=>decide (c.data.length<=300))&&decide (d.commands.length<=40)
theorem OA(d:G.Delta)(hn:d.commands.length<=9223372036854775807):G.pM d=some (Qt d):=by
 unfold G.pM Qt
 have hK:=iE (f:=G.mG d) d.commands (fun c=>!decide (c.data.length<=300)) (fun k=>(k:Int)) (fun _=> .inr false) (.inl ())
  (fun k h hb=>by
   unfold G.mG
   rw[if_pos (by omega),cH h]
   simp only[ae]
   simp at hb
   rw[if_neg (by omega),dk h hn])
  (fun k h hb=>by
   unfold G.mG
   rw[if_pos (by omega),cH h]
   simp only[ae]
   simp at hb
   rw[if_pos (by omega)])
  (by unfold G.mG;rw[if_neg (by omega)]) (s:=0) rfl
 rcases hK with⟨ha,he⟩|⟨k,h,hb,_,he⟩
 . have:d.commands.all (fun c=>decide (c.data.length<=300))=true:=by rw[aW];intro x hx;simpa using ha x hx
   rw[he,this]
   simp only[ae,nB,Bool.true_and]
   congr 1;rw[bg];omega
 . have:d.commands.all (fun c=>decide (c.data.length<=300))=false:=by rw[List.all_eq_false];exact⟨_,az h,by simpa using hb⟩
   rw[he,this];rfl
theorem LM{d:G.Delta}:Qt d=true↔(∀ c∈d.commands,c.data.length<=300)/\d.commands.length<=40:=by
 unfold Qt;rw[al,aW,au];simp
theorem P0(l:List UInt8)(h:l.length<=140737488355328):G.lN l=some l:=by
 unfold G.lN
 rw[dT (by simpa using h)]
 cases l with
 | nil=>exact B4 _
 | cons a l=>rfl
theorem Gc(c:G.Command)(h:c.data.length<=140737488355328):G.o4 c=some c:=by
 unfold G.o4
 rw[P0 _ h]
 rfl
theorem aaD(d:G.Delta)(l:List G.Command)(h:∀ c∈l,c.data.length<=140737488355328)(hn:l.length<=1000000000000):G.GY d l=some ⟨d.dC,d.b5,d.oy,d.ox,l⟩:=by
 unfold G.GY
 refine cD l.length (fun k=>((k:Int),d.dC,d.b5,d.oy,d.ox,l.take k,0,0,(fun _=>0),(fun _=>0),[])) _ (fun k hk=>?_) ?_ rfl
 . unfold G.xq
   rw[if_pos (by simp;omega)]
   simp only[cH hk,ae,Gc _ (h _ (az hk))]
   rw[dT (by simp;omega)]
   simp only[ae,dk hk (by omega)]
   rw[aD hk]
 . unfold G.xq
   rw[if_neg (by simp)]
   simp
theorem Sb(d:G.Delta)(l:List G.Command)(h:∀ c∈l,c.data.length<=140737488355328)(hn:l.length<=1000000000000):G.uW d l=some (d.dC,d.b5,d.oy,d.ox,l):=by
 unfold G.uW
 refine cD l.length (fun k=>((k:Int),d.dC,d.b5,d.oy,d.ox,0,0,(fun _=>0),(fun _=>0),l.take k,[])) _ (fun k hk=>?_) ?_ rfl
 . unfold G.uz
   rw[if_pos (by simp;omega)]
   simp only[cH hk,ae,Gc _ (h _ (az hk))]
   rw[dT (by simp;omega)]
   simp only[ae,dk hk (by omega)]
   rw[aD hk]
 . unfold G.uz
   rw[if_neg (by simp)]
   simp
end G
end Go.Proofs.YtekpafdhgkocaaaGreat
namespace Go.Proofs.YtekpafdhgkocaaaGreat
open IntKind(i64)
open G
namespace G
def E9(l:List G.Command)(ord:List Int):List G.Command:=ord.map fun x=>cat l x.toNat
section
variable {l:List G.Command}{ord:List Int}
theorem G4(h:Ord l ord):(E9 l ord).Perm l:=by
 refine(h.perm.map _).trans ?_
 have:(FV l.length).map (fun x=>cat l x.toNat)=l:=by
  refine List.ext_getElem (by simp[FV]) fun i h1 h2=>?_
  simp[FV,h2]
 rw[this]
theorem IZ(h:Ord l ord):(E9 l ord).length=l.length:=(G4 h).length_eq
theorem Qz(h:Ord l ord){k:Nat}(hk:k<l.length):cat (E9 l ord) k=vx l ord k:=by
 have hl:=h.len
 rw[bT (by rw[IZ h];exact hk)]
 unfold E9 vx
 rw[List.getElem_map]
 simp[show k<ord.length by omega]
end
section
variable {d:G.Delta}{ord:List Int}
def pos(d:G.Delta)(ord:List Int)(k:Nat):Int:=if k<d.commands.length then(vx d.commands ord k).to else d.b5
theorem Gv(hv:VD d)(ho:Ord d.commands ord){p q:Nat}(hpq:p<q)(hq:q<d.commands.length):dK (vx d.commands ord p)<=(vx d.commands ord q).to:=by
 refine Int.not_lt.1 fun hlt=>hv.apart ?_
 have hle:=ho.le (Nat.le_of_lt hpq) hq
 have gp:=hv.qq _ (ho.mem (k:=p) (by omega))
 have gq:=hv.qq _ (ho.mem hq)
 have h1:=ho.ix (k:=p) (by omega)
 have h2:=ho.ix hq
 obtain⟨a1,a2⟩:=h1
 obtain⟨b1,b2⟩:=h2
 refine⟨(ord.getD p 0).toNat,(ord.getD q 0).toNat,by omega,by omega,fun e=>by have:=ho.inj (by omega) hq e;omega,?_⟩
 show ov (vx d.commands ord p) (vx d.commands ord q)=true
 unfold ov
 rw[au]
 have:=gq.ot
 refine⟨?_,hlt⟩
 unfold dK;omega
theorem tiled(hv:VD d)(ho:Ord d.commands ord):pos d ord 0=0/\∀ k,k<d.commands.length->pos d ord (k+1)=dK (vx d.commands ord k):=by
 have hN:=hv.PA
 unfold JH at hN
 constructor
 . unfold pos
   split
   . rename_i hn
     have g0:=hv.qq _ (ho.mem hn)
     have:=g0.DL;have:=g0.ot;have:=g0.fits
     refine Int.le_antisymm (Int.not_lt.1 fun hlt=>?_) (by omega)
     obtain⟨c,hc,h1,h2⟩:=hv.full 0 (Int.le_refl _) (by unfold dK at *; omega)
     obtain⟨k,hk,rfl⟩:=ho.any hc
     have:=ho.le (Nat.zero_le k) hk
     omega
   . rename_i hn
     refine Int.le_antisymm (Int.not_lt.1 fun hlt=>?_) (by omega)
     obtain⟨c,hc,_⟩:=hv.full 0 (Int.le_refl _) hlt
     obtain⟨k,hk,_⟩:=ho.any hc
     omega
 . intro k hk
   have gk:=hv.qq _ (ho.mem hk)
   have:=gk.DL;have:=gk.ot;have:=gk.fits
   have none:¬ Nb d.commands (dK (vx d.commands ord k))->d.b5<=dK (vx d.commands ord k):=fun h=>Int.not_lt.1 fun hlt=>h (hv.full _ (by unfold dK;omega) hlt)
   have ZA:Nb d.commands (dK (vx d.commands ord k))->∃ q,k<q/\q<d.commands.length/\(vx d.commands ord q).to<=dK (vx d.commands ord k):=fun⟨c,hc,h1,h2⟩=>by
    obtain⟨q,hq,rfl⟩:=ho.any hc
    refine⟨q,Nat.lt_of_not_le fun hle=>?_,hq,h1⟩
    by_cases e:q=k
    . subst e;omega
    . have:=Gv hv ho (p:=q) (q:=k) (by omega) hk
      unfold dK at *; omega
   unfold pos
   split
   . rename_i hk1
     refine Int.le_antisymm ?_ (Gv hv ho (Nat.lt_succ_self k) hk1)
     have g1:=hv.qq _ (ho.mem hk1)
     have h3:=Gv hv ho (Nat.lt_succ_self k) hk1
     have h4:=g1.fits;have h5:=g1.ot
     by_cases hc:Nb d.commands (dK (vx d.commands ord k))
     . obtain⟨q,h6,h7,h8⟩:=ZA hc
       exact Int.le_trans (ho.le h6 h7) h8
     . have:=none hc
       unfold dK at h4;omega
   . rename_i hk1
     refine Int.le_antisymm ?_ gk.fits
     refine none fun hc=>?_
     obtain⟨q,h6,h7,_⟩:=ZA hc
     omega
theorem N9(l:List G.Command)(hn:l.length<=1000000000000):∃ S,G.uE l=some S/\S.Perm l/\S.Pairwise fun a b=>a.to<=b.to:=by
 unfold G.uE
 refine cu (f:=G.rR l) (fun m st=>∃ (k:Nat) (S:List G.Command),st=(S,(k:Int))/\m=l.length-k/\k<=l.length/\S.Perm (l.take k)/\S.Pairwise fun a b=>a.to<=b.to)
  (fun S=>S.Perm l/\S.Pairwise fun a b=>a.to<=b.to) ?_ l.length _ ⟨0,[],rfl,rfl,Nat.zero_le _,by simp, .nil⟩
 rintro m st ⟨k,S,rfl,rfl,hk,hp,hs⟩
 have hl:=hp.length_eq
 rw[aM,Nat.min_eq_left hk]at hl
 unfold G.rR
 by_cases hlt:k<l.length
 . left
   rw[if_pos (show(S,(k:Int)).2<(l.length:Int)by simp;omega)]
   obtain⟨r,hr,j,rfl,hj1,hj2,hj3⟩:=cu (f:=G.rS l (S,(k:Int)))
    (fun m st=>∃ j:Nat,st=(j:Int)/\m=j/\j<=S.length/\∀ i,j<=i->i<S.length->(cat l k).to<(cat S i).to)
    (fun r=>∃ j:Nat,r=(j:Int)/\j<=S.length/\(∀ i,j<=i->i<S.length->(cat l k).to<(cat S i).to)/\∀ i,i<j->(cat S i).to<=(cat l k).to) (by
     rintro m st ⟨j,rfl,hmj,hj,hgt⟩
     unfold G.rS
     by_cases h0:j>0
     . have e1:i64.wrap ((j:Int)-1)=((j-1:Nat):Int):=by rw[fB (by omega) (by omega)];omega
       rw[if_pos (by omega),e1]
       simp only[eZ default (show j-1<S.length by omega),eZ default hlt,ae,au]
       by_cases hc:(cat S (j-1)).to>(cat l k).to
       . left
         rw[if_pos hc]
         refine⟨j-1,_,rfl,by omega,j-1,rfl,rfl,by omega,fun i h1 h2=>?_⟩
         by_cases e:i=j-1
         . subst e;exact hc
         . exact hgt i (by omega) h2
       . right
         rw[if_neg hc]
         refine⟨_,rfl,j,rfl,hj,hgt,fun i hi=>?_⟩
         by_cases e:i=j-1
         . subst e;omega
         . have:=a7.1 hs i (j-1) (by omega) (by omega) (by omega)
           rw[<- bT,<- bT]at this
           omega
     . right
       rw[if_neg (by omega)]
       simp only[ae,aJ,if_false]
       exact⟨_,rfl,j,rfl,hj,hgt,fun i hi=>by omega⟩) S.length (S.length:Int) ⟨S.length,rfl,rfl,Nat.le_refl _,fun i h1 h2=>by omega⟩
   have e0:(S.length:Int)=((S,(k:Int)).1.length:Int):=rfl
   rw[<- e0,hr]
   simp only[ae]
   rw[yb (by omega),HI (by omega)]
   simp only[ae,eZ default hlt,aK]
   rw[dT (by simp;omega)]
   simp only[ae]
   rw[dT (by simp;omega)]
   simp only[ae]
   rw[dT (by simp;omega)]
   simp only[ae,dk hlt (by omega),aY]
   refine⟨l.length-(k+1),_,rfl,by omega,k+1,S.take j++[cat l k]++S.drop j,rfl,rfl,by omega,?_,?_⟩
   . rw[aD hlt,<- bT]
     have h1:(S.take j++[cat l k]++S.drop j).Perm (S++[cat l k]):=by
      have e:S++[cat l k]=S.take j++(S.drop j++[cat l k]):=by rw[<- aA,List.take_append_drop]
      rw[e,aA]
      exact List.perm_append_comm.append_left _
     exact h1.trans (hp.append_right _)
   . rw[List.pairwise_append,List.pairwise_append]
     refine⟨⟨hs.sublist (List.take_sublist _ _),by simp,fun a ha b hb=>?_⟩,hs.sublist (List.drop_sublist _ _),fun a ha b hb=>?_⟩
     . simp at hb;subst hb
       obtain⟨i,hi,rfl⟩:=List.mem_take_iff_getElem.1 ha
       rw[<- bT];exact hj3 i (by omega)
     . obtain⟨i,hi,rfl⟩:=List.mem_drop_iff_getElem.1 hb
       rw[<- bT]
       have h1:=hj2 (j+i) (by omega) (by omega)
       rcases aL.1 ha with ha|ha
       . obtain⟨q,hq,rfl⟩:=List.mem_take_iff_getElem.1 ha
         have h2:=hj3 q (by omega)
         rw[<- bT];omega
       . rw[List.mem_singleton]at ha;subst ha;exact Int.le_of_lt h1
 . right
   rw[if_neg (show ¬ (S,(k:Int)).2<(l.length:Int)by simp;omega)]
   have:k=l.length:=by omega
   subst this
   rw[bD]at hp
   exact⟨_,rfl,hp,hs⟩
theorem B0:∀ (A B:List G.Command),A.Perm B->(A.Pairwise fun a b=>a.to<=b.to)->(B.Pairwise fun a b=>a.to<=b.to)->(∀ a∈A,∀ b∈A,a.to=b.to->a=b)->A=B
 | [],B,hp,_,_,_=>(List.nil_perm.1 hp).symm
 | a::A,[],hp,_,_,_=>absurd hp.length_eq (by simp)
 | a::A,b::B,hp,ha,hb,hu=>by
   have h1:a∈b::B:=hp.mem_iff.1 (by simp)
   have h2:b∈a::A:=hp.mem_iff.2 (by simp)
   have k1:a.to<=b.to:=by
    rcases aV.1 h2 with e|e
    . rw[e];exact Int.le_refl _
    . exact(List.pairwise_cons.1 ha).1 b e
   have k2:b.to<=a.to:=by
    rcases aV.1 h1 with e|e
    . rw[e];exact Int.le_refl _
    . exact(List.pairwise_cons.1 hb).1 a e
   have e:a=b:=hu a (by simp) b h2 (by omega)
   subst e
   rw[B0 A B (List.Perm.cons_inv hp) (List.pairwise_cons.1 ha).2 (List.pairwise_cons.1 hb).2 fun x hx y hy=>hu x (by simp[hx]) y (by simp[hy])]
theorem Ym(hv:VD d):∀ a∈d.commands,∀ b∈d.commands,a.to=b.to->a=b:=fun a ha b hb e=>by
 obtain⟨i,hi,rfl⟩:=FZ ha
 obtain⟨j,hj,rfl⟩:=FZ hb
 by_cases hij:i=j
 . rw[hij]
 . refine absurd ⟨i,j,hi,hj,hij,?_⟩ hv.apart
   have:=(hv.qq _ ha).ot
   have:=(hv.qq _ hb).ot
   unfold ov dK
   rw[au];omega
theorem SF{d:G.Delta}{c:G.Command}(h:Good d c)(L:List G.Command):Good ⟨d.dC,d.b5,d.oy,d.ox,L⟩ c:=⟨h.DL,h.ot,h.fits,h.max,h.copy,h.lit⟩
end
end G
end Go.Proofs.YtekpafdhgkocaaaGreat
namespace Go.Proofs.YtekpafdhgkocaaaGreat
open IntKind(i64)
open G
namespace G
abbrev RZ:=Int⊕UInt8
def exp(c:G.Command):List RZ:=if c.kind=1 then(List.range c.len.toNat).map (fun k:Nat=> .inl (c.from_+(k:Int)))else c.data.map .inr
def SA(l:List G.Command):List RZ:=l.flatMap exp
structure HW(c:G.Command):Prop where
 ot:1<=eh c
 copy:c.kind=1->c.data=[]
 lit:c.kind≠1->c.kind=2/\c.from_=0/\c.len=0
theorem Good.nice{d:G.Delta}{c:G.Command}(h:Good d c):HW c:=⟨h.ot,fun hk=>(h.copy hk).2.2.2.2,h.lit⟩
theorem yj{c:G.Command}(h:c.kind=1):eh c=c.len:=by unfold eh;rw[if_pos h]
theorem AP{c:G.Command}(h:c.kind≠1):eh c=(c.data.length:Int):=by unfold eh;rw[if_neg h]
theorem LK{c:G.Command}(h:c.kind=1):exp c=(List.range c.len.toNat).map (fun k:Nat=> .inl (c.from_+(k:Int))):=by unfold exp;rw[if_pos h]
theorem O1{c:G.Command}(h:c.kind≠1):exp c=c.data.map .inr:=by unfold exp;rw[if_neg h]
theorem Kh{c:G.Command}(h:HW c):((exp c).length:Int)=eh c:=by
 by_cases hk:c.kind=1
 . have:=h.ot;rw[yj hk]at this ⊢; rw[LK hk];simp;omega
 . rw[AP hk,O1 hk];simp
section
variable {x y:G.Command}{l L:List G.Command}
def Xd(a:Int):List G.Command->Int->Prop
 | [],b=>a=b
 | c::l,b=>c.to=a/\Xd (dK c) l b
def one(a:Int):RZ->G.Command
 | .inl k=>⟨1,a,k,1,[]⟩
 | .inr b=>⟨2,a,0,0,[b]⟩
end
end G
end Go.Proofs.YtekpafdhgkocaaaGreat
namespace Go.Proofs.YtekpafdhgkocaaaGreat
open IntKind(i64)
open G
namespace G
structure Fit(N M:Int)(c:G.Command):Prop where
 nice:HW c
 DL:0<=c.to
 fits:dK c<=N
 src:c.kind=1->0<=c.from_/\c.from_+c.len<=M
theorem Good.fit{d:G.Delta}{c:G.Command}(h:Good d c):Fit d.b5 d.dC c:=⟨h.nice,h.DL,h.fits,fun hk=>⟨(h.copy hk).1,(h.copy hk).2.2.1⟩⟩
section
variable {N M:Int}{a b c:G.Command}
theorem Fit.data(ha:Fit N M a)(hN:N<=1000000):a.data.length<=1000000:=by
 by_cases hk:a.kind=1
 . rw[ha.nice.copy hk];simp
 . have:=ha.fits;have:=ha.DL;unfold dK at *; rw[AP hk]at *; omega
theorem P2(l:List (List UInt8))(h:l.flatten.length<=100000000)(hn:l.length<=1000):G.kV l=some l.flatten:=by
 have hpre:∀ k,(l.take k).flatten.length<=l.flatten.length:=fun k=>by
  conv=>rhs;rw[<- List.take_append_drop k l]
  rw[bp,aq];omega
 have hsucc:∀ k (hk:k<l.length),(l.take (k+1)).flatten=(l.take k).flatten++l[k]:=fun k hk=>by
  rw[aD hk,bp];simp
 unfold G.kV
 rw[cD (f:=G.ir l) l.length (fun k=>(((l.take k).flatten.length:Int),(k:Int))) (l.flatten.length:Int) (fun k hk=>?s1) ?f1 (s:=(0,0)) rfl]
 . simp only[ae]
   have hg:G.iw (l.flatten.length:Int)=some []:=by
    unfold G.iw
    rw[if_neg (by omega),fB (x:=(0:Int)-0) (by omega) (by omega),fB (by omega) (by omega)]
    by_cases h0:(l.flatten.length:Int)-(0-0)>0
    . rw[if_pos h0,zT (by omega)];rfl
    . rw[if_neg h0]
   rw[hg]
   simp only[ae]
   rw[cD (f:=G.iu l) l.length (fun k=>((l.take k).flatten,(k:Int))) l.flatten (fun k hk=>?s2) ?f2 (s:=([],0)) rfl]
   case s2=>
    unfold G.iu
    rw[if_pos (by simp;omega)]
    have:=hpre (k+1);rw[hsucc k hk,aq]at this
    simp only[cH hk,ae,dk hk (by omega)]
    rw[dT (by omega)]
    simp only[ae,hsucc k hk]
   case f2=>
    unfold G.iu
    rw[if_neg (by simp)];simp
 case s1=>
  unfold G.ir
  rw[if_pos (by simp;omega)]
  have:=hpre (k+1);rw[hsucc k hk,aq]at this
  simp only[cH hk,ae,dk hk (by omega)]
  rw[fB (by omega) (by omega),if_neg (by omega),hsucc k hk,aq]
  congr 4
 case f1=>
  unfold G.ir
  rw[if_neg (by simp)];simp
theorem Nf(t:Int)(l:List (List UInt8))(h:l.flatten.length<=100000000)(hn:l.length<=1000):G.rG t l=some ⟨2,t,0,0,l.flatten⟩:=by
 unfold G.rG;rw[P2 l h hn];rfl
theorem Iz(c:G.Command):G.cW c=some (if c.kind=1 then(⟨c.from_,c.len⟩,true)else(⟨0,0⟩,false)):=by
 unfold G.cW;by_cases h:c.kind=1<;>simp[h]
end
end G
end Go.Proofs.YtekpafdhgkocaaaGreat
namespace Go.Proofs.YtekpafdhgkocaaaGreat
open IntKind(i64)
open G
namespace G
section
variable {N M:Int}{l:List G.Command}
theorem drop_cons{α:Type}{l:List α}{i:Nat}(h:i<l.length):l.drop i=l[i]::l.drop (i+1):=by rw[bA h]
end
end G
end Go.Proofs.YtekpafdhgkocaaaGreat
namespace Go.Proofs.YtekpafdhgkocaaaGreat
open IntKind(i64)
open G
namespace G
section
variable {d:G.Delta}{ord:List Int}
theorem Yl(hv:VD d)(ho:Ord d.commands ord):Xd 0 (E9 d.commands ord) d.b5:=by
 obtain⟨h0,h1⟩:=tiled hv ho
 have hl:=IZ ho
 have key:∀ m k,k+m=d.commands.length->Xd (pos d ord k) ((E9 d.commands ord).drop k) d.b5:=by
  intro m
  induction m with
  | zero=>
    intro k hk
    rw[List.drop_of_length_le (by omega)]
    show pos d ord k=d.b5
    unfold pos;rw[if_neg (by omega)]
  | succ m ih=>
    intro k hk
    have hk':k<(E9 d.commands ord).length:=by omega
    rw[drop_cons hk',<- bT hk',Qz ho (by omega)]
    refine⟨?_,?_⟩
    . unfold pos;rw[if_pos (by omega)]
    . rw[<- h1 k (by omega)];exact ih (k+1) (by omega)
 have:=key d.commands.length 0 (by omega)
 rw[h0]at this;simpa using this
end
theorem UC:∀ {l:List G.Command} {a b:Int},(∀ c∈l,HW c)->Xd a l b->a<=b/\∀ c∈l,a<=c.to/\dK c<=b
 | [],a,b,_,h=>⟨Int.le_of_eq h,fun c hc=>by cases hc⟩
 | x::l,a,b,hn,⟨h1,h2⟩=>by
   obtain⟨h3,h4⟩:=UC (fun c hc=>hn c (by simp[hc])) h2
   have hx:=(hn x (by simp)).ot
   have ht:dK x=x.to+eh x:=rfl
   refine⟨by omega,fun c hc=>?_⟩
   rcases aV.1 hc with rfl|hc
   . exact⟨by omega,h3⟩
   . have:=h4 c hc;exact⟨by omega,this.2⟩
structure Sm(d:G.Delta)(S:List G.Command):Prop where
 vd:VD d
 len:d.commands.length<=1000
 new:d.b5<=3000
 perm:S.Perm d.commands
 til:Xd 0 S d.b5
section
variable {d:G.Delta}{S:List G.Command}
theorem Sm.fit(h:Sm d S):∀ c∈S,Fit d.b5 d.dC c:=fun c hc=>(h.vd.qq c (h.perm.mem_iff.1 hc)).fit
theorem Sm.nice(h:Sm d S):∀ c∈S,HW c:=fun c hc=>(h.fit c hc).nice
theorem Sm.PA(h:Sm d S):d.b5<=1000000/\d.dC<=4611686018427387903:=⟨by have:=h.new;omega,h.vd.PA.2.1⟩
theorem Sm.data(h:Sm d S):∀ c∈d.commands,c.data.length<=140737488355328:=fun c hc=>by
 have:=(h.vd.qq c hc).fit.data h.PA.1;omega
theorem R8(hv:VD d)(h1:d.commands.length<=1000)(h2:d.b5<=3000):∃ S,Sm d S:=by
 obtain⟨ord,ho⟩:=X6 d.commands
 exact⟨E9 d.commands ord,hv,h1,h2,G4 ho,Yl hv ho⟩
theorem R9(d:G.Delta)(hn:d.commands.length<=9223372036854775807):∃ b,G.qw d=some b/\(b=true->∃ S,Sm d S):=by
 unfold G.qw
 rw[OA d hn]
 simp only[ae]
 by_cases hf:Qt d=true
 . rw[if_pos hf]
   obtain⟨h1,h2⟩:=LM.1 hf
   by_cases hk:d.b5<=1000
   . rw[if_pos hk]
     obtain⟨b,h3,h4⟩:=Gn (d:=d) (by omega)
     rw[h3]
     exact⟨b,rfl,fun hb=>R8 (h4.1 hb) (by omega) (by omega)⟩
   . rw[if_neg hk];exact⟨false,rfl,fun h=>by cases h⟩
 . rw[if_neg hf];exact⟨false,rfl,fun h=>by cases h⟩
end
end G
namespace G
theorem PQ:∀ {l:List G.Command} {a b:Int},(∀ c∈l,HW c)->Xd a l b->((SA l).length:Int)=b-a
 | [],a,b,_,h=>by have h:a=b:=h;subst h;show((0:Nat):Int)=_;omega
 | x::l,a,b,hn,⟨h1,h2⟩=>by
   have ih:=PQ (fun c hc=>hn c (aE x hc)) h2
   have hx:=Kh (hn x (by simp))
   show((exp x++SA l).length:Int)=_
   rw[aq]
   have:dK x=x.to+eh x:=rfl
   omega
theorem UB:∀ {l:List G.Command} {a b o:Int} {c:G.Command},(∀ c∈l,HW c)->Xd a l b->c∈l->c.to<=o->o<dK c->(SA l)[(o-a).toNat]?=(exp c)[(o-c.to).toNat]?
 | x::l,a,b,o,c,hn,⟨h1,h2⟩,hc,h3,h4=>by
   have hx:=Kh (hn x (by simp))
   have te:dK x=x.to+eh x:=rfl
   have hn':=fun c hc=>hn c (aE x hc)
   show(exp x++SA l)[(o-a).toNat]?=_
   rcases aV.1 hc with rfl|hc
   . rw[List.getElem?_append_left (by omega),h1]
   . have h5:=((UC hn' h2).2 c hc).1
     have h6:=(hn x (by simp)).ot
     rw[List.getElem?_append_right (by omega),<- UB hn' h2 hc h3 h4]
     congr 1;omega
end G
end Go.Proofs.YtekpafdhgkocaaaGreat
namespace Go.Proofs.YtekpafdhgkocaaaGreat
open IntKind(i64)
open G
namespace G
def rd(a0:List UInt8):RZ->UInt8
 | .inl k=>a0.getD k.toNat 0
 | .inr b=>b
def zN(a0:List UInt8)(c:G.Command):List UInt8:=(exp c).map (rd a0)
def file(a0:List UInt8)(S:List G.Command):List UInt8:=(SA S).map (rd a0)
section
variable {d:G.Delta}{S:List G.Command}{a0:List UInt8}
theorem zO{c:G.Command}(h:HW c):((zN a0 c).length:Int)=eh c:=by unfold zN;rw[aI];exact Kh h
theorem AZ{c:G.Command}(hk:c.kind=1)(h0:0<=c.from_)(h1:0<=c.len)(h2:c.from_+c.len<=(a0.length:Int)):zN a0 c=(a0.take (c.from_+c.len).toNat).drop c.from_.toNat:=by
 unfold zN
 rw[LK hk,List.map_map]
 refine List.ext_getElem (by simp only[aI,List.length_range,bj,aM];omega) fun i h3 h4=>?_
 simp only[aI,List.length_range]at h3
 simp only[List.getElem_map,List.getElem_range,List.getElem_drop,List.getElem_take,Function.comp_apply,rd]
 rw[show(c.from_+(i:Int)).toNat=c.from_.toNat+i by omega,List.getD_eq_getElem?_getD,List.getElem?_eq_getElem (by omega)]
 rfl
theorem CG{c:G.Command}(hk:c.kind≠1):zN a0 c=c.data:=by
 unfold zN
 rw[O1 hk,List.map_map]
 have:rd a0 ∘ Sum.inr=id:=by funext b;rfl
 rw[this,List.map_id]
theorem Xj{c:G.Command}{N M:Int}(h:Fit N M c)(hM:M<=(a0.length:Int))(hl:a0.length<=1000000):G.BS a0 c=some (zN a0 c):=by
 unfold G.BS
 rw[Iz]
 by_cases hk:c.kind=1
 . have hs:=h.src hk
   have hn:=h.nice.ot
   rw[yj hk]at hn
   simp only[if_pos hk,ae,if_true]
   rw[fB (by omega) (by omega),Jz (by omega),AZ hk hs.1 (by omega) (by omega)]
   rfl
 . simp only[if_neg hk,ae,aJ,if_false]
   rw[CG hk]
theorem FN{o:Int}{c:G.Command}(h:Sm d S)(hc:c∈S)(h1:c.to<=o)(h2:o<dK c):(file a0 S)[o.toNat]?=(zN a0 c)[(o-c.to).toNat]?:=by
 unfold file zN
 have:=UB h.nice h.til hc h1 h2
 rw[Int.sub_zero]at this
 rw[List.getElem?_map,List.getElem?_map,this]
theorem Dd(h:Sm d S):((file a0 S).length:Int)=d.b5:=by
 unfold file;rw[aI,PQ h.nice h.til];omega
theorem Xm{α:Type}{l x:List α}{o:Nat}(h:o+x.length<=l.length)(j:Nat):(LC l o x)[j]?=if o<=j/\j<o+x.length then x[j-o]? else l[j]?:=by
 have hl:(l.take o).length=o:=by simp;omega
 unfold LC
 rw[bH (l:=x) (by omega)]
 by_cases h1:j<o
 . rw[if_neg (by omega),List.getElem?_append_left (by omega),List.getElem?_take,if_pos h1]
 . rw[List.getElem?_append_right (by omega),hl]
   by_cases h2:j<o+x.length
   . rw[if_pos ⟨by omega,h2⟩,List.getElem?_append_left (by omega)]
   . rw[if_neg (by omega),List.getElem?_append_right (by omega),List.getElem?_drop,show o+x.length+(j-o-x.length)=j by omega]
theorem MB(h:Sm d S)(hl:d.dC=(a0.length:Int))(ha:a0.length<=1000000):G.qu a0 d=some (file a0 S):=by
 have hN:=h.new
 have hR:=h.vd.PA
 unfold JH at hR
 have fl:=Dd (a0:=a0) h
 unfold G.qu
 refine cD (f:=G.nc a0 d) (file a0 S).length (fun k=>((file a0 S).take k,(k:Int))) _ (fun k hk=>?_) ?_ rfl
 . unfold G.nc
   rw[if_pos (by simp only;omega)]
   obtain⟨r,hr,hr1,hr2⟩:=Gg h.vd.qq (by have:=h.len;omega) (k:Int)
   have hr0:0<=r:=Int.not_lt.1 fun hlt=>hr1.1 hlt (h.vd.full _ (by omega) (by omega))
   obtain⟨i,hi,rfl,h2,h3⟩:=hr2 hr0
   simp only[hr,ae,cH hi]
   have hm:d.commands[i]∈S:=h.perm.mem_iff.2 (az hi)
   have hf:=h.fit _ hm
   generalize d.commands[i]=c at*
   have hat:=FN (a0:=a0) h hm h2 h3
   have f1:=hf.fits;have f2:=hf.DL
   have te:dK c=c.to+eh c:=rfl
   have bl:=zO (a0:=a0) hf.nice
   rw[aK,List.getElem?_eq_getElem hk,List.getElem?_eq_getElem (by omega)]at hat
   have hat:=ar hat
   have happ:∀ u,u=(file a0 S)[k]->(app 1 ((file a0 S).take k) [u]).bind (fun y=>some (Sum.inl (α:=List UInt8×Int) (β:=List UInt8) (y,i64.wrap ((k:Int)+1))))=some (.inl ((file a0 S).take (k+1),((k+1:Nat):Int))):=by
    rintro u rfl
    rw[dT (by simp;omega),aD hk]
    simp only[ae]
    rw[dk (n:=100000) (by omega) (by omega)]
   by_cases hkd:c.kind=1
   . have hs:=hf.src hkd
     have hn:=hf.nice.ot
     rw[yj hkd]at te hn bl
     rw[if_pos hkd,fB (x:=c.from_+(k:Int)) (by omega) (by omega),fB (by omega) (by omega),tL (k:=(c.from_+(k:Int)-c.to).toNat) (0:UInt8) (by omega) (by omega)]
     simp only[ae]
     refine happ _ ?_
     rw[hat]
     simp only[AZ hkd hs.1 (by omega) (show c.from_+c.len<=(a0.length:Int)by omega),List.getElem_drop,List.getElem_take]
     rw[List.getD_eq_getElem?_getD,List.getElem?_eq_getElem (by omega)]
     simp only[Option.getD_some]
     congr 1;omega
   . rw[AP hkd]at te bl
     rw[if_neg hkd,fB (by omega) (by omega),tL (k:=((k:Int)-c.to).toNat) (0:UInt8) (by omega) (by omega)]
     simp only[ae]
     refine happ _ ?_
     rw[hat]
     simp only[CG hkd]
     rw[List.getD_eq_getElem?_getD,List.getElem?_eq_getElem (by omega)]
     rfl
 . unfold G.nc
   rw[if_neg (by simp only;omega)]
   simp
end
theorem RT(a0:List UInt8)(d:G.Delta)(hn:d.commands.length<=9223372036854775807):∃ b,G.rK a0 d=some b/\(b=true->d.dC=(a0.length:Int)/\∃ S,Sm d S):=by
 unfold G.rK
 rw[OA d hn]
 simp only[ae]
 by_cases hf:Qt d=true
 . rw[if_pos hf]
   obtain⟨h1,h2⟩:=LM.1 hf
   obtain⟨b,h3,h4⟩:=Gn (d:=d) (by omega)
   rw[h3]
   simp only[ae]
   by_cases hb:b=true
   . rw[if_pos hb]
     by_cases hl:d.dC=(a0.length:Int)
     . rw[if_pos hl]
       refine⟨_,rfl,fun h=>⟨hl,R8 (h4.1 hb) (by omega) (aG h)⟩⟩
     . rw[if_neg hl];exact⟨false,rfl,fun h=>by cases h⟩
   . rw[if_neg hb];exact⟨false,rfl,fun h=>by cases h⟩
 . rw[if_neg hf];exact⟨false,rfl,fun h=>by cases h⟩
end G
end Go.Proofs.YtekpafdhgkocaaaGreat
namespace Go.Proofs.YtekpafdhgkocaaaGreat
open IntKind(i64)
open G
namespace G
def QF(a0:List UInt8)(c:G.Command):G.Command:=⟨2,c.to,0,0,zN a0 c⟩
def nG(a0:List UInt8)(a2:List Int)(i:Nat)(c:G.Command):G.Command:=if c.kind=1/\(i:Int)∈a2 then QF a0 c else c
def ly(a0:List UInt8)(a2:List Int)(l:List G.Command):List G.Command:=l.mapIdx (nG a0 a2)
section
variable {d:G.Delta}{S:List G.Command}{a0:List UInt8}{a2:List Int}
theorem xb(i:Nat)(c:G.Command):(nG a0 a2 i c).to=c.to:=by unfold nG;split<;>rfl
theorem QG{c:G.Command}(h:HW c):eh (QF a0 c)=eh c:=by
 rw[AP (by simp[QF])];exact zO h
theorem EF(i:Nat){c:G.Command}(h:HW c):eh (nG a0 a2 i c)=eh c:=by
 unfold nG;split
 . exact QG h
 . rfl
theorem Q4(i:Nat)(c:G.Command):zN a0 (nG a0 a2 i c)=zN a0 c:=by
 unfold nG;split
 . rw[CG (by simp[QF])];rfl
 . rfl
theorem je(l:List G.Command):(ly a0 a2 l).length=l.length:=by unfold ly;simp
theorem vU(l:List G.Command){i:Nat}(h:i<l.length)(h':i<(ly a0 a2 l).length):(ly a0 a2 l)[i]=nG a0 a2 i l[i]:=List.getElem_mapIdx
theorem Pg(h:Sm d S):VD ⟨d.dC,d.b5,d.oy,d.ox,ly a0 a2 d.commands⟩:=by
 have hR:=h.vd.PA
 have gd:∀ i (hi:i<d.commands.length),Fit d.b5 d.dC d.commands[i]:=fun i hi=>h.fit _ (h.perm.mem_iff.2 (az hi))
 have te:∀ i (hi:i<d.commands.length),dK (nG a0 a2 i d.commands[i])=dK d.commands[i]:=fun i hi=>by
  unfold dK;rw[xb,EF i (gd i hi).nice]
 refine⟨hR,fun c hc=>?_,?_,fun o h1 h2=>?_⟩
 . obtain⟨i,hi,rfl⟩:=bw.1 hc
   have hi':i<d.commands.length:=by rw[<- je (a0:=a0) (a2:=a2) d.commands];exact hi
   have e:=vU (a0:=a0) (a2:=a2) d.commands hi' hi
   show Good _ (ly a0 a2 d.commands)[i]
   rw[e]
   have g:=h.vd.qq _ (az hi')
   refine⟨by rw[xb];exact g.DL,by rw[EF i (gd i hi').nice];exact g.ot,by rw[te i hi'];exact g.fits,by rw[te i hi'];exact g.max,fun hk=>?_,fun hk=>?_⟩
   . unfold nG at hk ⊢
     split at hk
     . simp[QF]at hk
     . rename_i hn;rw[if_neg hn];exact g.copy hk
   . unfold nG at hk ⊢
     split at hk
     . rename_i hp;rw[if_pos hp];exact⟨rfl,rfl,rfl⟩
     . rename_i hn;rw[if_neg hn];exact g.lit hk
 . rintro⟨i,j,hi,hj,hne,hov⟩
   change i<(ly a0 a2 d.commands).length at hi
   change j<(ly a0 a2 d.commands).length at hj
   change ov (cat (ly a0 a2 d.commands) i) (cat (ly a0 a2 d.commands) j)=true at hov
   have hi':i<d.commands.length:=by rw[je]at hi;exact hi
   have hj':j<d.commands.length:=by rw[je]at hj;exact hj
   rw[bT hi,bT hj,vU d.commands hi' hi,vU d.commands hj' hj]at hov
   refine h.vd.apart ⟨i,j,hi',hj',hne,?_⟩
   rw[bT hi',bT hj']
   unfold ov at hov ⊢
   rw[te i hi',te j hj',xb,xb]at hov
   exact hov
 . obtain⟨c,hc,h3⟩:=h.vd.full o h1 h2
   obtain⟨i,hi,rfl⟩:=bw.1 hc
   have hi':i<(ly a0 a2 d.commands).length:=by rw[je];exact hi
   refine⟨(ly a0 a2 d.commands)[i],az hi',?_⟩
   rw[vU d.commands hi hi',te i hi,xb];exact h3
theorem VK(h:Sm d S):∃ S',Sm ⟨d.dC,d.b5,d.oy,d.ox,ly a0 a2 d.commands⟩ S'/\file a0 S'=file a0 S:=by
 obtain⟨S',hS'⟩:=R8 (Pg (a0:=a0) (a2:=a2) h) (by show(ly a0 a2 d.commands).length<=1000;rw[je];exact h.len) h.new
 refine⟨S',hS',List.ext_getElem? fun j=>?_⟩
 have l1:=Dd (a0:=a0) h
 have l2:((file a0 S').length:Int)=d.b5:=Dd (a0:=a0) (d:=⟨d.dC,d.b5,d.oy,d.ox,ly a0 a2 d.commands⟩) hS'
 by_cases hj:(j:Int)<d.b5
 . obtain⟨c,hc,h1,h2⟩:=h.vd.full (j:Int) (by omega) hj
   have e1:=FN (a0:=a0) h (h.perm.mem_iff.2 hc) h1 h2
   obtain⟨i,hi,rfl⟩:=bw.1 hc
   have hi':i<(ly a0 a2 d.commands).length:=by rw[je];exact hi
   have hn:=(h.fit _ (h.perm.mem_iff.2 (az hi))).nice
   have hm:(ly a0 a2 d.commands)[i]∈S':=hS'.perm.mem_iff.2 (az hi')
   have ep:=vU (a0:=a0) (a2:=a2) d.commands hi hi'
   have e2:=FN (a0:=a0) (o:=(j:Int)) hS' hm (by rw[ep,xb];exact h1) (by rw[ep];unfold dK;rw[xb,EF i hn];exact h2)
   rw[aK]at e1 e2
   rw[e1,e2,ep,Q4,xb]
 . rw[List.getElem?_eq_none (by omega),List.getElem?_eq_none (by omega)]
theorem qg(l:List Int)(x:Int)(hn:l.length<=9000000000000000000):G.dv l x=some (decide (x∈l)):=by
 unfold G.dv G.pQ
 have hK:=iE (f:=G.gG l x) l (fun c=>decide (x=c)) (fun k=>(k:Int)) (fun k=>(k:Int)) (-1)
  (fun k h hb=>by
   unfold G.gG
   rw[if_pos (by omega),cH h]
   simp only[ae]
   rw[if_neg (of_decide_eq_false hb),dk h (by omega)])
  (fun k h hb=>by
   unfold G.gG
   rw[if_pos (by omega),cH h]
   simp only[ae]
   rw[if_pos (aG hb)])
  (by unfold G.gG;rw[if_neg (by omega)]) (s:=0) rfl
 rcases hK with⟨ha,he⟩|⟨k,h,hb,_,he⟩
 . rw[he]
   simp only[ae]
   congr 1
   rw[bg]
   exact⟨fun h=>by omega,fun h=>absurd rfl (of_decide_eq_false (ha x h))⟩
 . rw[he]
   simp only[ae]
   congr 1
   rw[bg]
   exact⟨fun _=>by rw[aG hb];exact az h,fun _=>by omega⟩
theorem TX(l:List Int)(x:Int)(hn:l.length<=9000000000000000000):G.uc x l=some (decide (x∈l)):=by
 unfold G.uc
 have hK:=iE (f:=G.nz x l) l (fun c=>decide (c=x)) (fun k=>(k:Int)) (fun _=>true) false
  (fun k h hb=>by
   unfold G.nz
   rw[if_pos (by omega),cH h]
   simp only[ae]
   rw[if_neg (of_decide_eq_false hb),dk h (by omega)])
  (fun k h hb=>by
   unfold G.nz
   rw[if_pos (by omega),cH h]
   simp only[ae]
   rw[if_pos (aG hb)])
  (by unfold G.nz;rw[if_neg (by omega)]) (s:=0) rfl
 rcases hK with⟨ha,he⟩|⟨k,h,hb,_,he⟩
 . rw[he];congr 1;symm;rw[bh]
   exact fun h=>absurd rfl (of_decide_eq_false (ha x h))
 . rw[he];congr 1;symm;rw[au]
   rw[<- aG hb];exact az h
theorem MO{c:G.Command}{N M:Int}(h:Fit N M c)(hk:c.kind=1)(hM:M<=(a0.length:Int))(hl:a0.length<=1000000):wg a0 c.from_ (i64.wrap (c.from_+c.len))=some (zN a0 c):=by
 have hs:=h.src hk
 have hn:=h.nice.ot
 rw[yj hk]at hn
 rw[fB (by omega) (by omega),Jz (by omega),AZ hk hs.1 (by omega) (by omega)]
theorem A7(l:List G.Command){k:Nat}(hk:k<l.length):(ly a0 a2 l).take (k+1)=(ly a0 a2 l).take k++[nG a0 a2 k l[k]]:=by
 rw[aD (by rw[je];exact hk),vU l hk]
theorem S6(l:List G.Command){k:Nat}(hk:k<l.length):((ly a0 a2 l).take k++l.drop k).set k (nG a0 a2 k l[k])=(ly a0 a2 l).take (k+1)++l.drop (k+1):=by
 have hl:((ly a0 a2 l).take k).length=k:=by rw[aM,je];omega
 rw[List.set_append_right _ _ (by omega),hl,Nat.sub_self,bA hk,List.set_cons_zero,A7 l hk,aA];rfl
end
end G
end Go.Proofs.YtekpafdhgkocaaaGreat
namespace Go.Proofs.YtekpafdhgkocaaaGreat
open IntKind(i64)
open G
namespace G
def dM:G.Delta:=⟨4611686018427387903,4611686018427387903,fun _=>0,fun _=>0,[]⟩
theorem Vw{c:G.Command}(h:Ef c=0):Good dM c:=by
 obtain⟨h1,h2,h3,h4,h5⟩:=A0 h
 exact⟨h1,h2,h3,h3,fun hk=>by obtain⟨k1,k2,k3,k4⟩:=h4 hk;exact⟨k1,k2,k3,k3,k4⟩,h5⟩
structure Rt(l:List G.Command):Prop where
 len:l.length<=30
 qq:∀ c∈l,Good dM c
 data:∀ c∈l,c.data.length<=3000
 apart:∀ i,i<l.length->Mv l i=false
section
variable {l:List G.Command}
def Cl(c j:G.Command):Bool:=decide (c.kind=1/\c.from_<dK j/\j.to<c.from_+c.len)
def Sr(l:List G.Command)(i:Nat):Bool:=(l.take i).any (Cl (cat l i))
def Lf(l:List G.Command)(r:Int):Prop:=((∀ i,i<l.length->Sr l i=false)/\r=(l.length:Int))\/∃ k,k<l.length/\Sr l k=true/\(∀ j,j<k->Sr l j=false)/\r=(k:Int)
theorem Lf.unique{r s:Int}(h:Lf l r)(k:Lf l s):r=s:=by
 rcases h with⟨h1,rfl⟩|⟨i,hi,h1,h2,rfl⟩<;>rcases k with⟨k1,rfl⟩|⟨j,hj,k1,k2,rfl⟩
 . rfl
 . rw[h1 j hj]at k1;cases k1
 . rw[k1 i hi]at h1;cases h1
 . rcases Nat.lt_trichotomy i j with h|h|h
   . rw[k2 i h]at h1;cases h1
   . rw[h]
   . rw[h2 j h]at k1;cases k1
theorem R3{a b:G.bR}(ha:0<=a.off/\1<=a.len/\a.off+a.len<=4611686018427387903)(hb:0<=b.off/\1<=b.len/\b.off+b.len<=4611686018427387903):∃ e,G.eW a b=some (e,decide (a.off<b.off+b.len/\b.off<a.off+a.len)):=by
 unfold G.eW G.dB G.pL
 simp only[ae]
 rw[fB (x:=a.off+a.len) (by omega) (by omega),fB (x:=b.off+b.len) (by omega) (by omega)]
 have hx:mA (a.off+a.len) (b.off+b.len)-imax a.off b.off<=4611686018427387903/\ -4611686018427387903<=mA (a.off+a.len) (b.off+b.len)-imax a.off b.off/\(mA (a.off+a.len) (b.off+b.len)-imax a.off b.off<1↔¬ (a.off<b.off+b.len/\b.off<a.off+a.len)):=by
  unfold mA imax;split<;>split<;>omega
 rw[fB (by omega) (by omega)]
 split
 . rename_i h
   exact⟨_,by rw[decide_eq_false (hx.2.2.1 h)];rfl⟩
 . rename_i h
   exact⟨_,by rw[aF (Classical.not_not.1 (fun k=>h (hx.2.2.2 k)))];rfl⟩
def HV(c:G.Command):G.bR:=⟨c.to,eh c⟩
theorem MA{c:G.Command}{ps:List G.Command}(hc:Good dM c)(hp:∀ p∈ps,Good dM p)(hn:ps.length<=1000):G.zc c (ps.map HV)=some (ps.any (Cl c)):=by
 unfold G.zc
 have hS:G.cW c=some (if c.kind=1 then(⟨c.from_,c.len⟩,true)else(⟨0,0⟩,false)):=by
  unfold G.cW;by_cases h:c.kind=1<;>simp[h]
 rw[hS]
 by_cases hk:c.kind=1
 . obtain⟨k1,k2,k3,k4,_⟩:=hc.copy hk
   have k5:=hc.ot
   unfold eh at k5
   rw[if_pos hk]at k5
   simp only[if_pos hk,ae,if_true]
   unfold G.dx G.dH
   have hr:∀ k (h:k<ps.length),G.vl (HV ps[k]) ⟨c.from_,c.len⟩=some (Cl c ps[k]):=fun k h=>by
    have g:=hp _ (az h)
    have g1:=g.DL;have g2:=g.ot;have g3:=g.max
    obtain⟨e,he⟩:=R3 (a:=⟨c.from_,c.len⟩) (b:=HV ps[k]) ⟨k1,k5,k4⟩ ⟨g1,g2,g3⟩
    unfold G.vl
    rw[he]
    simp only[ae]
    congr 1
    unfold Cl
    rw[bg]
    show c.from_<ps[k].to+eh ps[k]/\ps[k].to<c.from_+c.len↔_
    unfold dK;simp[hk]
   have hK:=iE (f:=G.cb (ps.map HV) ⟨c.from_,c.len⟩) ps (Cl c) (fun k=>(k:Int)) (fun k=>(k:Int)) (-1)
    (fun k h hb=>by
     unfold G.cb
     rw[if_pos (by simp;omega),cH (show k<(ps.map HV).length by simp;omega)]
     simp only[ae,List.getElem_map,hr k h,hb,aJ,if_false]
     rw[dk h (by omega)])
    (fun k h hb=>by
     unfold G.cb
     rw[if_pos (by simp;omega),cH (show k<(ps.map HV).length by simp;omega)]
     simp only[ae,List.getElem_map,hr k h,hb,if_true])
    (by unfold G.cb;rw[if_neg (by simp)]) (s:=0) rfl
   rcases hK with⟨ha,he⟩|⟨k,h,hb,_,he⟩
   . rw[he]
     simp only[ae]
     congr 1
     rw[show decide ((-1:Int)≥0)=false from rfl];symm
     rw[List.any_eq_false];intro x hx;rw[ha x hx];simp
   . rw[he]
     simp only[ae]
     congr 1
     rw[aF (show(k:Int)≥0 by omega)];symm
     rw[br];exact⟨_,az h,hb⟩
 . simp only[if_neg hk,ae,aJ,if_false]
   congr 1;symm
   rw[List.any_eq_false];intro x hx;unfold Cl;simp[hk]
theorem Iw(hn:l.length<=30)(qq:∀ c∈l,Good dM c):∃ r,G.n6 l=some r/\Lf l r:=by
 unfold G.n6 G.wc G.mU
 simp only[ae]
 have hK:=iE (f:=G.fw l) (List.range l.length) (fun i=>Sr l i) (fun k=>((l.take k).map HV,(k:Int),l,0)) (fun k=> .inl (l,(k:Int))) (.inr (l,0))
  (fun k hk hb=>by
   simp only[List.length_range]at hk
   simp only[List.getElem_range]at hb
   have hr:=MA (ps:=l.take k) (qq _ (az hk)) (fun p hp=>qq p (List.mem_of_mem_take hp)) (by simp;omega)
   unfold Sr at hb
   rw[bT hk]at hb
   rw[hb]at hr
   unfold G.fw G.ta
   rw[if_pos (by simp;omega)]
   simp only[cH hk,ae,hr,aJ,if_false,tB]
   rw[dT (by simp;omega),dk hk (by omega),aD hk,bc]
   rfl)
  (fun k hk hb=>by
   simp only[List.length_range]at hk
   simp only[List.getElem_range]at hb
   have hr:=MA (ps:=l.take k) (qq _ (az hk)) (fun p hp=>qq p (List.mem_of_mem_take hp)) (by simp;omega)
   unfold Sr at hb
   rw[bT hk]at hb
   rw[hb]at hr
   unfold G.fw G.ta
   rw[if_pos (by simp;omega)]
   simp only[cH hk,ae,hr,if_true])
  (by unfold G.fw;rw[if_neg (by simp)]) (s:=([],0,l,0)) rfl
 rcases hK with⟨ha,he⟩|⟨k,hk,hb,hj,he⟩
 . rw[he]
   exact⟨_,rfl, .inl ⟨fun i hi=>ha i (List.mem_range.2 hi),rfl⟩⟩
 . rw[he]
   simp only[List.length_range]at hk
   simp only[List.getElem_range]at hb hj
   exact⟨_,rfl, .inr ⟨k,hk,hb,hj,rfl⟩⟩
end
end G
end Go.Proofs.YtekpafdhgkocaaaGreat
namespace Go.Proofs.YtekpafdhgkocaaaGreat
open IntKind(i64)
open G
namespace G
def sX:G.Command:=⟨1,0,2,2,[]⟩
def sY:G.Command:=⟨1,2,0,2,[]⟩
theorem Sz:Rt [sX,sY]:=by
 refine⟨by decide,fun c hc=>?_,fun c hc=>?_,fun i hi=>?_⟩
 . have:c=sX\/c=sY:=by simpa using hc
   rcases this with rfl|rfl<;>exact Vw (by decide)
 . have:c=sX\/c=sY:=by simpa using hc
   rcases this with rfl|rfl<;>decide
 . have:i=0\/i=1:=by have hi:i<2:=hi;omega
   rcases this with rfl|rfl<;>decide
theorem Xx:Lf [sX,sY] 1:= .inr ⟨1,by decide,by decide,fun j hj=>by
 have:j=0:=by omega
 subst this;decide,rfl⟩
theorem IP:G.n6 [sX,sY]=some 1:=by
 obtain⟨r,h1,h2⟩:=Iw Sz.len Sz.qq
 rw[h1,h2.unique Xx]
theorem Gb{l:List G.Command}{r:Int}(h:G.n6 l=some r):G.wa l=some (if r<(l.length:Int)then⟨16,r⟩else⟨0,0⟩):=by
 unfold G.wa
 rw[h]
 simp only[ae]
 by_cases hr:r<(l.length:Int)
 . rw[if_pos hr,if_pos hr]
 . rw[if_neg hr,if_neg hr]
theorem Iu{t k:Int}{o n:Int}(h1:0<=t/\t<=4611686018427387903)(h2:0<=k/\k<=4611686018427387903)(h3:0<=o/\o<=4611686018427387903)(h4:0<=n/\n<=4611686018427387903):G.oO ⟨t,k⟩ [⟨o,n⟩]=some (decide (t<=o/\o+n<=t+k)):=by
 have e1:G.pn ⟨o,n⟩ ⟨t,k⟩=some (decide (¬ (t<=o/\o+n<=t+k))):=by
  unfold G.pn G.dB
  simp only
  by_cases h:o<t
  . rw[if_pos h];congr 1;symm;exact aF (by omega)
  . rw[if_neg h]
    simp only[ae,fB (x:=o+n) (by omega) (by omega),fB (x:=t+k) (by omega) (by omega)]
    congr 1;rw[bg];omega
 unfold G.oO G.cX G.dm
 have e2:Iter (G.b4 [⟨o,n⟩] ⟨t,k⟩) 0=some (if t<=o/\o+n<=t+k then -1 else 0):=by
  by_cases h:t<=o/\o+n<=t+k
  . rw[if_pos h]
    rw[rh (s':=1) (by unfold G.b4;rw[if_pos (by simp)];simp only[FR (k:=0) (show(0:Int)=((0:Nat):Int) from rfl) (show 0<[(⟨o,n⟩:G.bR)].length by simp),ae,List.getElem_cons_zero,e1];rw[if_neg (by rw[au];exact fun k=>k h)];rfl)]
    exact j8 (by unfold G.b4;rw[if_neg (by simp)])
  . rw[if_neg h]
    exact j8 (by unfold G.b4;rw[if_pos (by simp)];simp only[FR (k:=0) (show(0:Int)=((0:Nat):Int) from rfl) (show 0<[(⟨o,n⟩:G.bR)].length by simp),ae,List.getElem_cons_zero,e1];rw[if_pos (aF h)])
 rw[e2]
 simp only[ae]
 by_cases h:t<=o/\o+n<=t+k
 . rw[if_pos h];simp[h]
 . rw[if_neg h];simp[h]
theorem M9(l:List UInt8)(h:l.length<=140737488355328):G.jQ l=some l:=by
 unfold G.jQ
 rw[dT (by simpa using h)]
 cases l with
 | nil=>exact B4 _
 | cons a l=>rfl
def NH(n:Int)(c:G.Command):Bool:=decide (dK c<=n/\(c.kind=1->c.from_+c.len<=n))
def src(f:List UInt8)(c:G.Command):List UInt8:=if c.kind=1 then(f.take (c.from_+c.len).toNat).drop c.from_.toNat else c.data
def xv(f:List UInt8)(c:G.Command):List UInt8:=LC f c.to.toNat (src f c)
theorem Wy{f:List UInt8}{c:G.Command}(h:Good dM c)(hi:NH (f.length:Int) c=true):((src f c).length:Int)=eh c:=by
 obtain⟨i1,i2⟩:=aG hi
 unfold src eh
 by_cases hk:c.kind=1
 . obtain⟨k1,k2,k3,k4,_⟩:=h.copy hk
   have k5:=h.ot
   unfold eh at k5
   rw[if_pos hk]at k5
   have:=i2 hk
   rw[if_pos hk,if_pos hk]
   simp only[bj,aM]
   omega
 . rw[if_neg hk,if_neg hk]
theorem T7{f:List UInt8}{c:G.Command}(h:Good dM c)(hi:NH (f.length:Int) c=true):(xv f c).length=f.length:=by
 have h0:=h.DL;have h1:=h.ot
 obtain⟨i1,i2⟩:=aG hi
 unfold dK at i1
 unfold xv
 rw[Ci (by omega)]
theorem Dg{n:Nat}:∀ (l:List G.Command) (f:List UInt8),f.length=n->(∀ c∈l,Good dM c/\NH (n:Int) c=true)->(l.foldl xv f).length=n
 | [],f,hf,_=>hf
 | c::l,f,hf,h=>by
   rw[List.foldl_cons]
   have hc:=h c (ay ..)
   exact Dg l _ (by rw[T7 hc.1 (by rw[hf];exact hc.2),hf]) fun x hx=>h x (aE _ hx)
theorem JE{l:List G.Command}{k:Nat}(hk:k<l.length)(f:List UInt8):(l.take (k+1)).foldl xv f=xv ((l.take k).foldl xv f) l[k]:=by
 rw[aD hk,List.foldl_append];rfl
section
variable {a0:List UInt8}{l:List G.Command}
theorem O0{n:Nat}(hg:∀ c∈l,Good dM c)(hi:∀ c∈l,NH (n:Int) c=true)(hn:a0.length=n)(k:Nat):((l.take k).foldl xv a0).length=n:=
 Dg _ _ hn fun c hc=>⟨hg c (List.mem_of_mem_take hc),hi c (List.mem_of_mem_take hc)⟩
theorem Yh(c:G.Command):G.cW c=some (if c.kind=1 then(⟨c.from_,c.len⟩,true)else(⟨0,0⟩,false)):=by
 unfold G.cW;by_cases h:c.kind=1<;>simp[h]
theorem Vs(hg:∀ c∈l,Good dM c)(hl:l.length<=1000000)(ha:a0.length<=1000000):Iter (G.mC a0 l) 0=some (if l.all (NH (a0.length:Int))=true then .inl ()else .inr ([],false)):=by
 have hq:∀ k (h:k<l.length),G.mC a0 l (k:Int)=some (if NH (a0.length:Int) l[k]=true then .inl ((k+1:Nat):Int)else .inr (.inr ([],false))):=fun k h=>by
  have g:=hg _ (az h)
  have g1:=g.DL;have g2:=g.ot;have g3:=g.max
  have g4:dK l[k]=l[k].to+eh l[k]:=rfl
  unfold G.mC
  rw[if_pos (by omega),cH h]
  simp only[ae,Yh,tB]
  rw[Iu (by omega) (by omega) (by omega) (by omega),dk h (by omega)]
  simp only[ae]
  unfold NH
  by_cases hk:l[k].kind=1
  . obtain⟨k1,k2,k3,k4,_⟩:=g.copy hk
    rw[if_pos hk]
    try dsimp only
    by_cases h1:(0:Int)<=l[k].to/\l[k].to+eh l[k]<=0+(a0.length:Int)
    . rw[aF h1,if_neg (by decide),if_pos rfl,Iu (by omega) (by omega) (by omega) (by omega)]
      simp only[ae]
      by_cases h2:(0:Int)<=l[k].from_/\l[k].from_+l[k].len<=0+(a0.length:Int)
      . rw[aF h2,if_neg (by decide),if_pos (aF ⟨by omega,fun _=>by omega⟩)]
      . rw[decide_eq_false h2,if_pos (by decide),if_neg (by rw[au];intro h;have:=h.2 hk;omega)]
    . rw[decide_eq_false h1,if_pos rfl]
      simp only[ae]
      rw[if_pos trivial,if_neg (by rw[au];intro h;have:=h.1;omega)]
  . rw[if_neg hk]
    by_cases h1:(0:Int)<=l[k].to/\l[k].to+eh l[k]<=0+(a0.length:Int)
    . rw[aF h1,if_neg (by decide),if_neg (by decide)]
      simp only[ae]
      rw[if_neg (by decide),if_pos (aF ⟨by omega,fun h=>absurd h hk⟩)]
    . rw[decide_eq_false h1,if_pos rfl]
      simp only[ae]
      rw[if_pos trivial,if_neg (by rw[au];intro h;have:=h.1;omega)]
 have hK:=iE (f:=G.mC a0 l) l (fun c=>!NH (a0.length:Int) c) (fun k=>(k:Int)) (fun _=> .inr ([],false)) (.inl ())
  (fun k h hb=>by rw[hq k h,if_pos (by simpa using hb)]) (fun k h hb=>by rw[hq k h,if_neg (by simpa using hb)])
  (by unfold G.mC;rw[if_neg (by omega)]) (s:=0) rfl
 rcases hK with⟨h1,he⟩|⟨k,h,hb,_,he⟩
 . rw[he,if_pos]
   rw[aW];intro c hc;simpa using h1 c hc
 . rw[he,if_neg]
   rw[aW];intro hall
   have:=hall _ (az h)
   simp[this]at hb
theorem Vt(hg:∀ c∈l,Good dM c)(hl:l.length<=1000000)(ha:a0.length<=1000000)(hi:∀ c∈l,NH (a0.length:Int) c=true):Iter (G.oY l) (0,a0)=some (l.foldl xv a0,true):=by
 refine cD (f:=G.oY l) l.length (fun k=>((k:Int),(l.take k).foldl xv a0)) _ (fun k hk=>?_) ?_ rfl
 . have hs:=O0 hg hi rfl k
   have g:=hg _ (az hk)
   have g1:=g.DL;have g2:=g.ot;have g3:=g.max
   have hin:=hi _ (az hk)
   have hsl:=Wy (f:=(l.take k).foldl xv a0) g (by rw[hs];exact hin)
   rw[JE hk]
   generalize (l.take k).foldl xv a0=f at*
   obtain⟨i1,i2⟩:=aG hin
   have g4:dK l[k]=l[k].to+eh l[k]:=rfl
   unfold G.oY
   rw[if_pos (by simp only;omega)]
   simp only[cH hk,ae,Yh]
   rw[dk hk (by omega)]
   by_cases hkd:l[k].kind=1
   . obtain⟨k1,k2,k3,k4,_⟩:=g.copy hkd
     have i3:=i2 hkd
     have ht:eh l[k]=l[k].len:=by unfold eh;rw[if_pos hkd]
     simp only[if_pos hkd,if_true]
     unfold G.dB
     rw[zT (by omega)]
     simp only[ae]
     rw[fB (by omega) (by omega),zT (by omega)]
     simp only[ae]
     congr 2
     unfold xv
     congr 2
     unfold src at hsl ⊢
     rw[if_pos hkd]at hsl ⊢
     rw[List.drop_take,List.take_take]
     congr 1
     omega
   . simp only[if_neg hkd,aJ,if_false]
     rw[zT (by omega)]
     simp only[ae]
     congr 2
     unfold xv
     congr 2
     unfold src at hsl ⊢
     rw[if_neg hkd]at hsl ⊢
     rw[bH (by omega)]
 . unfold G.oY
   rw[if_neg (by simp)]
   simp
theorem Gf(hg:∀ c∈l,Good dM c)(hl:l.length<=1000000)(ha:a0.length<=1000000):G.qD a0 l=some (if l.all (NH (a0.length:Int))=true then(l.foldl xv a0,true)else([],false)):=by
 unfold G.qD
 rw[Vs hg hl ha]
 by_cases h:l.all (NH (a0.length:Int))=true
 . rw[if_pos h,if_pos h]
   simp only[ae,qO]
   rw[M9 _ (by omega)]
   simp only[ae]
   exact Vt hg hl ha (aW.1 h)
 . rw[if_neg h,if_neg h];rfl
end
def eX:G.bO:=⟨⟨0,2⟩,0⟩
theorem Xy:G.cc [eX] 0 1=some [eX]:=by
 unfold G.cc
 exact sI 1 (by kernel_rfl)
theorem OZ(fx:((List G.bO)×Int×Int×Int)->Option (List G.bO)):G.dN fx [eX] 0 1 1=some [eX]:=by
 unfold G.dN
 refine j8 ?_
 unfold G.fE
 rw[if_pos (by decide)]
 show(G.cc [eX] 0 1).bind _=_
 rw[Xy];rfl
theorem XA:G.cv [eX] 0 1 1=some [eX]:=by
 unfold G.cv
 obtain⟨r,h1,h2⟩:=DW (F:=G.cN) (fun _ x=>x=([eX],0,1,1)) (fun _ r=>r=[eX]) (fun k x hx f g _=>by subst hx;exact⟨_,OZ f,OZ g,rfl⟩) (k:=0) rfl
 rw[h1,h2]
theorem Vr:G.bU [eX]=some [eX]:=by
 unfold G.bU
 rw[show G.jP (IntKind.u64.wrap ([eX].length:Int))=some 1 from by kernel_rfl]
 show(G.cv [eX] 0 1 1).bind _=_
 rw[XA];rfl
theorem Xz:G.tM [⟨0,2⟩]=some (.inr [eX]):=by
 unfold G.tM
 rw[show Iter (G.qB [⟨0,2⟩]) (0,[])=some (.inl [eX]) from sI 2 (by kernel_rfl)]
 show(G.bU [eX]).bind _=_
 rw[Vr]
 exact sI 2 (by kernel_rfl)
theorem Vq:G.gF ⟨0,2⟩ [eX]=some [0]:=by
 have h1:G.kT 0 [eX]=some 0:=by
  unfold G.kT
  show(G.ed 1 [eX] 0).bind _=_
  rw[show G.ed 1 [eX] 0=some 0 from sI 3 (by kernel_rfl)]
  rfl
 have h2:G.cw [eX] ⟨0,2⟩ []=some [0]:=by
  unfold G.cw
  rw[h1]
  exact sI 3 (by kernel_rfl)
 unfold G.gF
 show(G.cw [eX] ⟨0,2⟩ []).bind _=_
 rw[h2];rfl
theorem Sy:G.zb [sX,sY] 1=some [⟨0,2⟩]:=by
 unfold G.zb
 rw[show(if(1:Int)<0 then some true else some (decide ((1:Int)≥(([sX,sY]:List G.Command).length:Int))))=some false from by kernel_rfl]
 simp only[ae]
 rw[if_neg (by decide),show idx [sX,sY] 1=some sY from by kernel_rfl]
 simp only[ae]
 rw[show G.cW sY=some (⟨0,2⟩,true) from by kernel_rfl]
 simp only[ae]
 rw[if_neg (by decide),show G.wc [sX,sY]=some [sX,sY] from rfl]
 simp only[ae]
 rw[show G.nH [sX,sY] 1 []=some (1,[⟨0,2⟩]) from sI 3 (by kernel_rfl)]
 simp only[ae]
 rw[Xz]
 simp only[ae]
 rw[Vq]
 simp only[ae]
 exact sI 2 (by kernel_rfl)
theorem Vp:G.qD [97,98,99,100] [sY]=some ([97,98,97,98],true):=by
 rw[Gf (fun c hc=>Sz.qq c (by simp at hc;simp[hc])) (by decide) (by decide)]
 kernel_rfl
theorem UY:G.nv=some true:=by
 unfold G.nv
 rw[show(⟨1,0,2,2,([]:List UInt8)⟩:G.Command)=sX from rfl,show(⟨1,2,0,2,([]:List UInt8)⟩:G.Command)=sY from rfl,show idx [sX,sY] 1=some sY from by kernel_rfl]
 simp only[ae]
 rw[show[u8 97,u8 98,u8 99,u8 100]=[97,98,99,100] from by kernel_rfl,Vp,Gb IP,Sy,IP]
 simp only[ae]
 rw[show G.eP [⟨0,2⟩] [⟨0,2⟩]=some true from by unfold G.eP;rw[if_neg (by simp)];exact sI 2 (by kernel_rfl)]
 rfl
end G
end Go.Proofs.YtekpafdhgkocaaaGreat
namespace Go.Proofs.YtekpafdhgkocaaaGreat
open IntKind(i64)
open G
namespace G
section
variable {l:List G.Command}
def wrt(l:List G.Command)(i:Nat)(o:Int):Bool:=(l.take i).any fun c=>decide (c.to<=o/\o<dK c)
theorem Vj{i:Nat}(hi:i<l.length)(hg:∀ c∈l,Good dM c):Sr l i=true↔l[i].kind=1/\∃ o,l[i].from_<=o/\o<l[i].from_+l[i].len/\wrt l i o=true:=by
 unfold Sr wrt
 rw[bT hi,br]
 constructor
 . rintro⟨c,hc,h⟩
   unfold Cl at h
   obtain⟨h1,h2,h3⟩:=aG h
   have g:=hg c (List.mem_of_mem_take hc)
   have g1:=g.ot
   have gl:=(hg _ (az hi)).ot
   rw[show eh l[i]=l[i].len by unfold eh;rw[if_pos h1]]at gl
   refine⟨h1,imax l[i].from_ c.to,?_,?_,?_⟩
   . unfold imax;split<;>omega
   . unfold imax;split<;>omega
   . rw[br]
     refine⟨c,hc,aF ?_⟩
     unfold dK at*
     unfold imax;split<;>omega
 . rintro⟨h1,o,h2,h3,h4⟩
   obtain⟨c,hc,h5⟩:=br.1 h4
   have h5:=aG h5
   exact⟨c,hc,by unfold Cl;exact aF ⟨h1,by omega,by omega⟩⟩
end
end G
end Go.Proofs.YtekpafdhgkocaaaGreat
namespace Go.Proofs.YtekpafdhgkocaaaGreat
open IntKind(i64)
open G
namespace G
theorem R7{a b:G.Command}(ha:Good dM a)(hb:Good dM b):∃ n,G.qy a b=some n/\(n>0↔Cl a b=true):=by
 unfold G.qy Cl
 by_cases hk:a.kind=1
 . obtain⟨k1,k2,k3,k4,_⟩:=ha.copy hk
   have k5:=ha.ot
   rw[show eh a=a.len by unfold eh;rw[if_pos hk]]at k5
   have b1:=hb.DL;have b2:=hb.ot;have b3:=hb.max
   rw[if_neg (by simp[hk])]
   unfold G.mF G.ju
   unfold dK at b3 ⊢
   simp only[ae,vF]
   rw[fB (x:=a.from_+a.len) (by omega) (by omega),fB (x:=b.to+eh b) (by omega) (by omega),au]
   by_cases h:imax a.from_ b.to≥mA (a.from_+a.len) (b.to+eh b)
   . rw[if_pos h]
     refine⟨_,rfl,?_⟩
     simp only
     revert h
     unfold imax mA
     split<;>split<;>omega
   . rw[if_neg h]
     refine⟨_,rfl,?_⟩
     simp only
     revert h
     unfold imax mA
     split<;>split<;>(intro h;rw[fB (by omega) (by omega)];omega)
 . rw[if_pos (by simpa using hk)]
   exact⟨0,rfl,by simp[hk]⟩
section
variable {l:List G.Command}
def ids(n:Nat):List Int:=(List.range n).map fun(k:Nat)=>(k:Int)
end
end G
end Go.Proofs.YtekpafdhgkocaaaGreat
namespace Go.Proofs.YtekpafdhgkocaaaGreat
open IntKind(i64)
open G
namespace G
theorem aaR{i j:Nat}(h:i+j<=9223372036854775807):i64.wrap (lx .u64 (IntKind.u64.wrap (i64.wrap ((i:Int)+(j:Int)))) 1)=(((i+j)/2:Nat):Int):=NS (by omega) h
theorem UE{α:Type}{p:α->Bool}{x:α}:∀ {l:List α},x∈l.takeWhile p->p x=true
 | [],h=>by cases h
 | a::l,h=>by
   by_cases ha:p a=true
   . rw[List.takeWhile_cons_of_pos ha]at h
     rcases aV.1 h with rfl|h
     . exact ha
     . exact UE h
   . rw[List.takeWhile_cons_of_neg ha]at h;cases h
def uM(e:G.bR):Int:=e.off+e.len
def Ex(e:G.bR):Prop:=0<=e.off/\1<=e.len/\e.off+e.len<=4611686018427387903
def EW(a b:G.bR):Bool:=decide (a.off<uM b/\b.off<uM a)
def aaA(a b:G.bR):G.bR:=⟨imax a.off b.off,mA (uM a) (uM b)-imax a.off b.off⟩
theorem UJ(a b:G.bR):EW a b=EW b a:=by unfold EW;rw[bg];omega
theorem R5{a b:G.bR}(ha:Ex a)(hb:Ex b):G.eW a b=some (if EW a b=true then(aaA a b,true)else(⟨0,0⟩,false)):=by
 obtain⟨a1,a2,a3⟩:=ha
 obtain⟨b1,b2,b3⟩:=hb
 unfold G.eW G.dB G.pL
 simp only[ae]
 rw[fB (x:=a.off+a.len) (by omega) (by omega),fB (x:=b.off+b.len) (by omega) (by omega)]
 have hx:mA (a.off+a.len) (b.off+b.len)-imax a.off b.off<=4611686018427387903/\ -4611686018427387903<=mA (a.off+a.len) (b.off+b.len)-imax a.off b.off/\(mA (a.off+a.len) (b.off+b.len)-imax a.off b.off<1↔¬ (a.off<b.off+b.len/\b.off<a.off+a.len)):=by
  unfold mA imax;split<;>split<;>omega
 rw[fB (by omega) (by omega)]
 unfold EW uM
 by_cases h:a.off<b.off+b.len/\b.off<a.off+a.len
 . rw[if_neg (fun k=>hx.2.2.1 k h),if_pos (aF h)];rfl
 . rw[if_pos (hx.2.2.2 h),if_neg (by simpa using h)];rfl
def Ej(B:List G.bR):List G.bO:=B.mapIdx fun k e=>⟨e,(k:Int)⟩
theorem sN(B:List G.bR):(Ej B).length=B.length:=by unfold Ej;simp
theorem z5{B:List G.bR}{k:Nat}(hk:k<B.length)(h':k<(Ej B).length):(Ej B)[k]=⟨B[k],(k:Int)⟩:=List.getElem_mapIdx
theorem Qm(B:List G.bR){k:Nat}(hk:k<B.length):(Ej B).take (k+1)=(Ej B).take k++[⟨B[k],(k:Int)⟩]:=by
 rw[aD (by rw[sN];exact hk),z5 hk]
theorem Da{B:List G.bR}{e:G.bO}(h:e∈Ej B):∃ k,∃ hk:k<B.length,e=⟨B[k],(k:Int)⟩:=by
 obtain⟨k,hk,rfl⟩:=bw.1 h
 have hk':k<B.length:=by rwa[sN]at hk
 exact⟨k,hk',z5 hk' hk⟩
theorem S9{B:List G.bR}{k:Nat}(hk:k<B.length):(⟨B[k],(k:Int)⟩:G.bO)∈Ej B:=by
 exact bw.2 ⟨k,by rw[sN];exact hk,z5 hk _⟩
theorem Sa{e:G.bR}(h:Ex e):G.lI e=some true:=by
 obtain⟨h1,h2,h3⟩:=h
 unfold G.lI
 rw[if_pos (by unfold mA;split<;>omega),if_pos (by omega),fB (by omega) (by omega)]
 congr 1;exact aF (by omega)
theorem XV{B:List G.bR}(hB:∀ e∈B,Ex e)(hn:B.length<=1000):Iter (G.qB B) (0,[])=some (.inl (Ej B)):=by
 refine cD (f:=G.qB B) B.length (fun k=>((k:Int),(Ej B).take k)) _ (fun k hk=>?_) ?_ rfl
 . have he:=hB _ (az hk)
   unfold G.qB
   rw[if_pos (by simp only;omega)]
   simp only[cH hk,ae,Sa he]
   rw[if_neg (by decide)]
   simp only[ae]
   rw[if_neg (by have:=he.2.1;simp only[beq_iff_eq];omega),dT (by simp[sN];omega),dk hk (by omega),Qm B hk]
   rfl
 . unfold G.qB
   rw[if_neg (by simp)]
   rw[bH (by rw[sN];exact Nat.le_refl _)]
structure US(B:List G.bR)(y:List G.bO):Prop where
 perm:y.Perm (Ej B)
 len:y.length=B.length
 ex:∀ e∈y,Ex e.dj
 srt:y.Pairwise fun a b=>uM a.dj<=b.dj.off
theorem UU{B:List G.bR}(hB:∀ e∈B,Ex e)(hn:B.length<50)(hd:∀ i j (hi:i<B.length) (hj:j<B.length),i≠j->EW B[i] B[j]=false):∃ y,G.tM B=some (.inr y)/\US B y:=by
 unfold G.tM
 rw[XV hB (by omega)]
 simp only[ae,qO]
 obtain⟨y,e,hp,hs⟩:=QI.tZ (Ej B) (by rw[sN];exact hn)
 rw[e]
 simp only[ae]
 have hl:y.length=B.length:=by rw[hp.length_eq,sN]
 have hex:∀ e∈y,Ex e.dj:=fun e he=>by
  obtain⟨k,hk,rfl⟩:=Da (hp.mem_iff.1 he)
  exact hB _ (az hk)
 have hnd:y.Pairwise fun a b=>a.position≠b.position:=by
  have h0:(Ej B).Pairwise fun a b=>a.position≠b.position:=by
   refine a7.2 fun i j hi hj hij=>?_
   rw[z5 (by rwa[sN]at hi),z5 (by rwa[sN]at hj)]
   simp only;omega
  exact(hp.pairwise_iff (fun h=>h.symm)).2 h0
 have hsr:y.Pairwise fun a b=>uM a.dj<=b.dj.off:=by
  refine a7.2 fun i j hi hj hij=>?_
  have h1:=a7.1 hs i j hi hj hij
  have h2:=a7.1 hnd i j hi hj hij
  have x2:=hex _ (az hj)
  obtain⟨p,hp1,e1⟩:=Da (hp.mem_iff.1 (az hi))
  obtain⟨q,hq1,e2⟩:=Da (hp.mem_iff.1 (az hj))
  have h3:=hd p q hp1 hq1 (fun h=>h2 (by rw[e1,e2];simp only;omega))
  rw[e1]at h1 ⊢
  rw[e2]at h1 x2 ⊢
  unfold EW at h3
  have h3:=of_decide_eq_false h3
  unfold QI.key at h1
  unfold Ex at x2
  simp only at h1 x2 ⊢
  unfold uM at h3 ⊢
  omega
 refine⟨y,?_,hp,hl,hex,hsr⟩
 refine cD (f:=G.vh y) y.length (fun k=>(k:Int)) _ (fun k hk=>?_) ?_ rfl
 . unfold G.vh
   rw[if_pos (by omega)]
   have hv:(if(k:Int)>0 then(idx y (k:Int)).bind fun x11=>(idx y (i64.wrap ((k:Int)-1))).bind fun x12=>(G.dB x12.dj).bind fun y13=>some (decide (x11.dj.off<y13))else some false)=some false:=by
    by_cases h0:(k:Int)>0
    . rw[if_pos h0,cH hk,fB (by omega) (by omega),FR (k:=k-1) (by omega) (by omega)]
      unfold G.dB
      simp only[ae]
      have x1:=hex _ (az (show k-1<y.length by omega))
      have:=a7.1 hsr (k-1) k (by omega) hk (by omega)
      unfold Ex at x1
      unfold uM at this
      rw[fB (by omega) (by omega),decide_eq_false (by omega)]
    . rw[if_neg h0]
   rw[hv]
   simp only[ae]
   rw[if_neg (by decide),dk hk (by omega)]
 . unfold G.vh
   rw[if_neg (by omega)]
section
variable {B:List G.bR}{y:List G.bO}
theorem US.get(h:US B y){i j:Nat}(hij:i<j)(hj:j<y.length):uM y[i].dj<=y[j].dj.off:=a7.1 h.srt i j (by omega) hj hij
theorem US.mono(h:US B y){i j:Nat}(hij:i<=j)(hj:j<y.length):uM y[i].dj<=uM y[j].dj:=by
 by_cases e:i=j
 . subst e;exact Int.le_refl _
 . have:=h.get (i:=i) (j:=j) (by omega) hj
   have x:=h.ex _ (az hj)
   unfold Ex at x
   have:uM y[j].dj=y[j].dj.off+y[j].dj.len:=rfl
   omega
theorem Sd(h:US B y)(hn:y.length<50)(o:Int):∃ k:Nat,G.kT o y=some (k:Int)/\k<=y.length/\(∀ j (hj:j<y.length),j<k->uM y[j].dj<=o)/\∀ j (hj:j<y.length),k<=j->o<uM y[j].dj:=by
 unfold G.kT G.oQ G.ed
 simp only[ae]
 have hq:∀ m (hm:m<y.length),G.mI (m:Int) y o=some (decide (o<uM y[m].dj)):=fun m hm=>by
  unfold G.mI G.dB
  have x:=h.ex _ (az hm)
  unfold Ex at x
  rw[cH hm]
  simp only[ae]
  rw[fB (by omega) (by omega)]
  rfl
 obtain⟨r,e,k,rfl,h1,h2,h3⟩:=cu (f:=G.gz y o)
  (fun m s=>∃ i j:Nat,s=((i:Int),(j:Int))/\m=j-i/\i<=j/\j<=y.length/\(∀ p (hp:p<y.length),p<i->uM y[p].dj<=o)/\∀ p (hp:p<y.length),j<=p->o<uM y[p].dj)
  (fun r=>∃ k:Nat,r=(k:Int)/\k<=y.length/\(∀ j (hj:j<y.length),j<k->uM y[j].dj<=o)/\∀ j (hj:j<y.length),k<=j->o<uM y[j].dj) (by
   rintro m s ⟨i,j,rfl,rfl,h1,h2,h3,h4⟩
   unfold G.gz
   simp only
   by_cases hij:i<j
   . have hm:(i+j)/2<y.length:=by omega
     rw[if_pos (by omega),aaR (by omega),hq _ hm]
     simp only[ae]
     by_cases hc:o<uM y[(i+j)/2].dj
     . rw[aF hc,if_neg (by decide)]
       exact .inl ⟨_,_,rfl,by omega,i,(i+j)/2,rfl,rfl,by omega,by omega,h3,fun p hp hjp=>by have:=h.mono hjp hp;omega⟩
     . rw[decide_eq_false hc,if_pos rfl]
       refine .inl ⟨j-((i+j)/2+1),_,rfl,by omega,(i+j)/2+1,j,?_,rfl,by omega,by omega,fun p hp hpi=>by have:=h.mono (i:=p) (j:=(i+j)/2) (by omega) hm;omega,h4⟩
       rw[fB (by omega) (by omega)];rfl
   . rw[if_neg (by omega)]
     have:i=j:=by omega
     subst this
     exact .inr ⟨_,rfl,i,rfl,h2,h3,h4⟩) _ ((0:Int),(y.length:Int)) ⟨0,y.length,rfl,rfl,Nat.zero_le _,Nat.le_refl _,fun p _ hp=>by omega,fun p hp hp2=>by omega⟩
 rw[e]
 exact⟨k,rfl,h1,h2,h3⟩
theorem UT(h:US B y)(hn:y.length<50){s:G.bR}(hs:Ex s):∃ M:List G.bO,G.gF s y=some (M.map (·.position))/\M.length<50/\(M.Pairwise fun a b=>uM a.dj<=b.dj.off)/\∀ e,e∈M↔e∈y/\EW e.dj s=true:=by
 obtain⟨k,hk,k1,k2,k3⟩:=Sd h hn s.off
 refine⟨(y.drop k).takeWhile fun e=>EW e.dj s,?_,?_,?_,?_⟩
 . unfold G.gF G.pO G.cw
   simp only[ae]
   rw[hk]
   simp only[ae]
   rw[JR]
   obtain⟨r,e,he⟩:=cu (f:=G.eK y s)
    (fun m st=>∃ (i:Nat) (out:List Int),st=((i:Int),out)/\m=y.length-i/\k<=i/\i<=y.length/\out.length<=i/\out++((y.drop i).takeWhile fun e=>EW e.dj s).map (·.position)=((y.drop k).takeWhile fun e=>EW e.dj s).map (·.position))
    (fun r=>r=((y.drop k).takeWhile fun e=>EW e.dj s).map (·.position)) (by
     rintro m st ⟨i,out,rfl,rfl,i1,i2,i3,i4⟩
     unfold G.eK G.oQ
     simp only[ae]
     by_cases hi:i<y.length
     . have x:=h.ex _ (az hi)
       rw[if_pos (by omega),cH hi]
       simp only[ae]
       rw[R5 x hs]
       simp only[ae]
       rw[bA hi]at i4
       by_cases hov:EW y[i].dj s=true
       . rw[if_pos hov]
         rw[List.takeWhile_cons_of_pos (p:=fun e:G.bO=>EW e.dj s) hov,aP]at i4
         simp only[Bool.true_eq_false,if_false]
         unfold G.qW
         rw[dT (by simp;omega)]
         simp only[ae,aJ,if_false]
         rw[dk hi (by omega)]
         exact .inl ⟨y.length-(i+1),_,rfl,by omega,i+1,_,rfl,rfl,by omega,hi,by simp;omega,by rw[aA];exact i4⟩
       . rw[if_neg hov]
         rw[List.takeWhile_cons_of_neg (p:=fun e:G.bO=>EW e.dj s) hov,bG,aN]at i4
         simp only[if_true,ae]
         exact .inr ⟨_,rfl,i4⟩
     . rw[if_neg (by omega)]
       rw[List.drop_eq_nil_of_le (by omega),List.takeWhile_nil,bG,aN]at i4
       exact .inr ⟨_,rfl,i4⟩) _ ((k:Int),[]) ⟨k,[],rfl,rfl,Nat.le_refl _,k1,by simp,rfl⟩
   rw[e,he]
 . have h1:=(List.takeWhile_sublist (fun e:G.bO=>EW e.dj s) (l:=y.drop k)).length_le
   rw[bj]at h1;omega
 . exact h.srt.sublist ((List.takeWhile_sublist _).trans (List.drop_sublist _ _))
 . intro e
   constructor
   . intro he
     exact⟨List.mem_of_mem_drop ((List.takeWhile_sublist _).mem he),UE (p:=fun e:G.bO=>EW e.dj s) he⟩
   . rintro⟨he,hov⟩
     obtain⟨j,hj,rfl⟩:=bw.1 he
     unfold EW at hov
     have hov:=aG hov
     have hkj:k<=j:=Nat.le_of_not_lt fun hlt=>by
      have:=k2 j hj hlt
      omega
     have hall:∀ (n i:Nat),i+n=j->k<=i->y[j]∈(y.drop i).takeWhile fun e=>EW e.dj s:=by
      intro n
      induction n with
      | zero=>
        intro i hi hki
        have:i=j:=by omega
        subst this
        rw[bA hj,List.takeWhile_cons_of_pos (p:=fun e:G.bO=>EW e.dj s) (by unfold EW;exact aF hov)]
        exact ay ..
      | succ n ih=>
        intro i hi hki
        have hi2:i<y.length:=by omega
        have x:=h.ex _ (az hi2)
        have q1:=h.get (i:=i) (j:=j) (by omega) hj
        have q2:=k3 i hi2 hki
        rw[bA hi2,List.takeWhile_cons_of_pos (p:=fun e:G.bO=>EW e.dj s) (by
         unfold EW;refine aF ⟨?_,q2⟩
         unfold Ex at x;unfold uM at q1;omega)]
        exact aE _ (ih (i+1) (by omega) (by omega))
     exact hall (j-k) k (by omega) (Nat.le_refl _)
end
end G
end Go.Proofs.YtekpafdhgkocaaaGreat
namespace Go.Proofs.YtekpafdhgkocaaaGreat
open IntKind(i64)
open G
namespace G
def PA(o:Int)(m:Nat):List Int:=(List.range m).map fun(j:Nat)=>o+(j:Int)
section
variable {l:List G.Command}
theorem Yk{c:G.Command}(h:Good dM c):Ex (HV c):=⟨h.DL,h.ot,h.max⟩
theorem Rz(h:Rt l)(i:Nat):∀ p q (hp:p<((l.take i).map HV).length) (hq:q<((l.take i).map HV).length),p≠q->EW ((l.take i).map HV)[p] ((l.take i).map HV)[q]=false:=by
 have key:∀ p q (hp:p<l.length) (hq:q<l.length),p<q->EW (HV l[q]) (HV l[p])=false:=fun p q hp hq hpq=>by
  have h1:=h.apart q hq
  unfold Mv at h1
  rw[List.any_eq_false]at h1
  have h2:=h1 l[p] (bw.2 ⟨p,by simp;omega,by simp⟩)
  rw[bT hq]at h2
  show ov l[q] l[p]=false
  simpa using h2
 intro p q hp hq hne
 simp only[aI,aM]at hp hq
 simp only[List.getElem_map,List.getElem_take]
 rcases Nat.lt_or_ge p q with hpq|hpq
 . rw[UJ];exact key p q (by omega) (by omega) hpq
 . exact key q p (by omega) (by omega) (by omega)
end
end G
end Go.Proofs.YtekpafdhgkocaaaGreat
namespace Go.Proofs.YtekpafdhgkocaaaGreat
open IntKind(i64)
open G
namespace G
theorem Kj{d:G.Delta}{c:G.Command}(h:Good d c)(h1:d.dC<=4611686018427387903):Good dM c:=
 ⟨h.DL,h.ot,h.max,h.max,fun hk=>by obtain⟨k1,k2,k3,k4,k5⟩:=h.copy hk;exact⟨k1,k2,k4,k4,k5⟩,h.lit⟩
theorem Nh(d:G.Delta)(hn:d.commands.length<=9223372036854775807):∃ b,G.qz d=some b/\(b=true->d.commands.length<=20/\∃ S,Sm d S):=by
 unfold G.qz
 by_cases h:(d.commands.length:Int)<=20
 . rw[if_pos h]
   obtain⟨b,e,hb⟩:=R9 d hn
   rw[e]
   exact⟨b,rfl,fun h1=>⟨by omega,hb h1⟩⟩
 . rw[if_neg h];exact⟨false,rfl,fun h=>by cases h⟩
theorem Ld(a0:List UInt8)(n:Int)(ha:a0.length<=1000000)(hn:n<=1000000):G.nh a0 n=some (a0++List.replicate (n.toNat-a0.length) 0):=by
 unfold G.nh
 rw[dT (by simp;omega)]
 simp only[ae,aY]
 refine cD (f:=G.lL n) (n.toNat-a0.length) (fun k=>a0++List.replicate k 0) _ (fun k hk=>?_) ?_ (by simp)
 . unfold G.lL
   rw[if_pos (by simp;omega),dT (by simp;omega)]
   simp only[ae,aA]
   congr 3
   rw[List.replicate_succ'];rfl
 . unfold G.lL
   rw[if_neg (by simp;omega)]
section
variable {a0:List UInt8}{d:G.Delta}{S:List G.Command}
theorem Un{f:List UInt8}{c:G.Command}{N M:Int}(hf:Fit N M c)(hM:M<=(a0.length:Int))(hs:c.kind=1->∀ o:Int,c.from_<=o->o<c.from_+c.len->f[o.toNat]?=a0[o.toNat]?)(hl:c.kind=1->c.from_+c.len<=(f.length:Int)):src f c=zN a0 c:=by
 unfold src
 by_cases hk:c.kind=1
 . have hc:=hf.src hk
   have hn:=hf.nice.ot
   rw[yj hk]at hn
   have hl:=hl hk
   rw[if_pos hk,AZ hk hc.1 (by omega) (by omega)]
   refine List.ext_getElem? fun i=>?_
   rw[List.getElem?_drop,List.getElem?_drop,List.getElem?_take,List.getElem?_take]
   by_cases h:c.from_.toNat+i<(c.from_+c.len).toNat
   . rw[if_pos h,if_pos h]
     have:=hs hk (c.from_+(i:Int)) (by omega) (by omega)
     rwa[show(c.from_+(i:Int)).toNat=c.from_.toNat+i by omega]at this
   . rw[if_neg h,if_neg h]
 . rw[if_neg hk,CG hk]
theorem Rp(h:Sm d S)(hl:d.dC=(a0.length:Int))(hd:∀ i,i<d.commands.length->Sr d.commands i=false){f:List UInt8}(hf1:d.b5<=(f.length:Int))(hf2:a0.length<=f.length)(hf3:∀ i,i<a0.length->f[i]?=a0[i]?):
 (d.commands.foldl xv f).take d.b5.toNat=file a0 S:=by
 have hR:=h.vd.PA
 unfold JH at hR
 have hg:∀ c∈d.commands,Good dM c:=fun c hc=>Kj (h.vd.qq c hc) hR.2.1
 have hm:∀ c∈d.commands,c∈S:=fun c hc=>h.perm.mem_iff.2 hc
 have hi:∀ c∈d.commands,NH (f.length:Int) c=true:=fun c hc=>by
  have hf:=h.fit c (hm c hc)
  have h1:=hf.fits
  unfold NH
  refine aF ⟨by omega,fun hk=>?_⟩
  have h2:=hf.src hk
  omega
 have key:∀ k,k<=d.commands.length->(∀ i (hi:i<d.commands.length),i<k->∀ o:Int,d.commands[i].to<=o->o<dK d.commands[i]->((d.commands.take k).foldl xv f)[o.toNat]?=(file a0 S)[o.toNat]?)/\(∀ o:Int,0<=o->wrt d.commands k o=false->((d.commands.take k).foldl xv f)[o.toNat]?=f[o.toNat]?):=by
  intro k
  induction k with
  | zero=>exact fun _=>⟨fun i hi h=>by omega,fun o _ _=>rfl⟩
  | succ k ih=>
    intro hk
    obtain⟨ih1,ih2⟩:=ih (by omega)
    have hk:k<d.commands.length:=hk
    have hs:=O0 (a0:=f) hg hi rfl k
    have hc:=az hk
    have hft:=h.fit _ (hm _ hc)
    have g:=hg _ hc
    have g1:=g.DL;have g2:=g.ot;have g3:=g.max
    have te:dK d.commands[k]=d.commands[k].to+eh d.commands[k]:=rfl
    rw[JE hk]
    have hsrc:src ((d.commands.take k).foldl xv f) d.commands[k]=zN a0 d.commands[k]:=by
     refine Un hft (by omega) (fun hkd o h1 h2=>?_) (fun hkd=>?_)
     . have hs:=hft.src hkd
       have hw:wrt d.commands k o=false:=by
        refine Bool.eq_false_iff.2 fun hw=>?_
        have:=(Vj hk hg).2 ⟨hkd,o,h1,h2,hw⟩
        rw[hd k hk]at this;cases this
       rw[ih2 o (by omega) hw]
       exact hf3 _ (by omega)
     . have:=hft.src hkd
       rw[hs];omega
    have hbl:=zO (a0:=a0) hft.nice
    have hin:=(aG (hi _ hc)).1
    have hrun:∀ x:List UInt8,xv x d.commands[k]=LC x d.commands[k].to.toNat (src x d.commands[k]):=fun _=>rfl
    rw[hrun,hsrc]
    generalize (d.commands.take k).foldl xv f=x at*
    have hcp:∀ o:Int,0<=o->(LC x d.commands[k].to.toNat (zN a0 d.commands[k]))[o.toNat]?=if d.commands[k].to<=o/\o<dK d.commands[k]then(file a0 S)[o.toNat]? else x[o.toNat]?:=fun o ho=>by
     rw[Xm (by omega)]
     by_cases hin:d.commands[k].to<=o/\o<dK d.commands[k]
     . rw[if_pos hin,if_pos (by omega),FN h (hm _ hc) hin.1 hin.2]
       congr 1;omega
     . rw[if_neg hin,if_neg (by omega)]
    refine⟨fun i hi hik o h1 h2=>?_,fun o ho hw=>?_⟩
    . have hi0:=(h.fit _ (hm _ (az hi))).DL
      rw[hcp o (by omega)]
      split
      . rfl
      . rename_i hne
        by_cases e:i=k
        . subst e;exact absurd ⟨h1,h2⟩ hne
        . exact ih1 i hi (by omega) o h1 h2
    . unfold wrt at hw
      rw[aD hk,List.any_append,Bool.or_eq_false_iff]at hw
      have hw2:¬ (d.commands[k].to<=o/\o<dK d.commands[k]):=by simpa using hw.2
      rw[hcp o ho,if_neg hw2]
      exact ih2 o ho hw.1
 obtain⟨h1,_⟩:=key d.commands.length (Nat.le_refl _)
 rw[bD]at h1
 have fl:=Dd (a0:=a0) h
 have hlen:=Dg d.commands f rfl fun c hc=>⟨hg c hc,hi c hc⟩
 refine List.ext_getElem? fun j=>?_
 rw[List.getElem?_take]
 by_cases hj:(j:Int)<d.b5
 . rw[if_pos (by omega)]
   obtain⟨c,hc,h3,h4⟩:=h.vd.full (j:Int) (by omega) hj
   obtain⟨i,hi,rfl⟩:=bw.1 hc
   have:=h1 i hi hi (j:Int) h3 h4
   rwa[aK]at this
 . rw[if_neg (by omega),List.getElem?_eq_none (by omega)]
end
end G
end Go.Proofs.YtekpafdhgkocaaaGreat
namespace Go.Proofs.YtekpafdhgkocaaaGreat
open IntKind(i64)
open G
namespace G
theorem IC{l:List G.Command}:¬ zF l↔l.Pairwise (fun a b=>ov a b=false):=by
 rw[a7]
 constructor
 . intro h i j hi hj hij
   cases e:ov l[i] l[j]with
   | false=>rfl
   | true=>exact absurd ⟨i,j,hi,hj,by omega,by rw[bT hi,bT hj,e]⟩ h
 . rintro h ⟨i,j,hi,hj,hne,e⟩
   rw[bT hi,bT hj]at e
   rcases Nat.lt_or_gt_of_ne hne with k|k
   . rw[h i j hi hj k]at e;cases e
   . rw[KL,h j i hj hi k]at e;cases e
section
variable {d:G.Delta}{S L:List G.Command}{a0:List UInt8}
theorem VD.perm(h:VD d)(hp:L.Perm d.commands):VD ⟨d.dC,d.b5,d.oy,d.ox,L⟩:=by
 refine⟨h.PA,fun c hc=>SF (h.qq c (hp.mem_iff.1 hc)) _,?_,fun o h1 h2=>?_⟩
 . exact IC.2 ((hp.pairwise_iff (fun h=>by rw[KL];exact h)).2 (IC.1 h.apart))
 . obtain⟨c,hc,h3⟩:=h.full o h1 h2
   exact⟨c,hp.mem_iff.2 hc,h3⟩
theorem Sm.other(h:Sm d S)(hp:L.Perm d.commands):Sm ⟨d.dC,d.b5,d.oy,d.ox,L⟩ S:=
 ⟨h.vd.perm hp,by show L.length<=1000;rw[hp.length_eq];exact h.len,h.new,h.perm.trans hp.symm,h.til⟩
end
end G
end Go.Proofs.YtekpafdhgkocaaaGreat
namespace Go.Proofs.YtekpafdhgkocaaaGreat
open IntKind(i64)
open G
theorem G0:WO eO:=fun x y=>by
 unfold eO
 cases x;cases y
 simp[cR]
structure GR(L:List G.bN)(es:List (G.bN×Bool))(out mX:List (Int×List Int)):Prop where
 es:es=L.map fun e=>(e,true)
 out:∀ v,(dG cR out v).getD []=(L.filter fun e=>cR e.from_ v).map (·.to)
 mX:∀ v,(dG cR mX v).getD []=(L.filter fun e=>cR e.to v).map (·.from_)
 nd:L.Nodup
theorem GR.nil:GR [] [] [] []:=⟨rfl,fun _=>rfl,fun _=>rfl,List.nodup_nil⟩
section
variable {L:List G.bN}{es:List (G.bN×Bool)}{out mX:List (Int×List Int)}{n:Int}{e:G.bN}
theorem GR.no(h:GR L es out mX)(hn:e ∉ L):dG eO es e=none:=by
 rw[xU,h.es,List.any_map,List.any_eq_false]
 intro x hx hq
 exact hn (by rw[(G0 _ _).1 hq];exact hx)
theorem GR.yes(h:GR L es out mX)(hn:e∈L):dG eO es e=some true:=by
 cases hm:dG eO es e with
 | none=>
   rw[xU,h.es,List.any_map,List.any_eq_false]at hm
   exact absurd (G0.refl e) (hm e hn)
 | some v=>
   have:=Jh G0 hm
   rw[h.es]at this
   obtain⟨x,_,hx⟩:=List.mem_map.1 this
   cases hx;rfl
theorem GR.add(h:GR L es out mX)(hn:e ∉ L):GR (L++[e]) (kZ eO es e true) (kZ cR out e.from_ ((dG cR out e.from_).getD []++[e.to])) (kZ cR mX e.to ((dG cR mX e.to).getD []++[e.from_])):=by
 refine⟨?_,fun v=>?_,fun v=>?_,?_⟩
 . rw[Tl (h.no hn),h.es,bc];rfl
 . rw[Mg gi,List.filter_append,bc]
   by_cases hv:cR v e.from_=true
   . obtain rfl:=(gi _ _).1 hv
     rw[if_pos hv,h.out]
     simp[List.filter_cons,gi.refl]
   . have hv':cR e.from_ v=false:=gi.ne fun e1=>hv (by rw[e1];exact gi.refl _)
     rw[if_neg hv,h.out]
     simp[List.filter_cons,hv']
 . rw[Mg gi,List.filter_append,bc]
   by_cases hv:cR v e.to=true
   . obtain rfl:=(gi _ _).1 hv
     rw[if_pos hv,h.mX]
     simp[List.filter_cons,gi.refl]
   . have hv':cR e.to v=false:=gi.ne fun e1=>hv (by rw[e1];exact gi.refl _)
     rw[if_neg hv,h.mX]
     simp[List.filter_cons,hv']
 . rw[List.nodup_append]
   exact⟨h.nd,by simp,fun a ha b hb=>by simp at hb;subst hb;exact fun e1=>hn (by rw[<- e1];exact ha)⟩
theorem RM(h:GR L es out mX){i j:Int}(hi:0<=i)(hi':i<n)(hj:0<=j)(hj':j<n)(hl:L.length<=10000):
 ∃ k es' out' inn' L',G.kQ [⟨i,j⟩] n es out mX=some (k,es',out',inn')/\GR L' es' out' inn'/\((i=j\/(⟨i,j⟩:G.bN)∈L)/\L'=L\/¬ (i=j\/(⟨i,j⟩:G.bN)∈L)/\L'=L++[⟨i,j⟩]):=by
 have hlo:∀ v,((dG cR out v).getD []).length<=10000:=fun v=>by rw[h.out,aI];exact Nat.le_trans (bC _ _) hl
 have hli:∀ v,((dG cR mX v).getD []).length<=10000:=fun v=>by rw[h.mX,aI];exact Nat.le_trans (bC _ _) hl
 have hv:∀ x:Int,0<=x->x<n->G.kg x n es out mX=some true:=fun x h1 h2=>by
  unfold G.kg G.gg
  rw[if_pos h1]
  simp[h2]
 have hx:idx [(⟨i,j⟩:G.bN)] 0=some ⟨i,j⟩:=rfl
 have hend:∀ c es' out' inn',G.fI [⟨i,j⟩] n (c,1,es',out',inn')=some (.inr (c,es',out',inn')):=fun c es' out' inn'=>by
  unfold G.fI
  rw[if_neg (by simp)]
 have w1:i64.wrap ((0:Int)+1)=1:=by decide
 unfold G.kQ
 by_cases hc:i=j\/(⟨i,j⟩:G.bN)∈L
 . refine⟨0,es,out,mX,L,?_,h, .inl ⟨hc,rfl⟩⟩
   have h1:G.fI [⟨i,j⟩] n (0,0,es,out,mX)=some (.inl (0,1,es,out,mX)):=by
    unfold G.fI
    rw[if_pos (by simp)]
    simp only[hx,ae,hv i hi hi',hv j hj hj',w1]
    rcases hc with rfl|hc
    . simp
    . have:=h.yes hc
      by_cases hij:i=j
      . simp[hij]
      . simp[hij,this]
   rw[rh h1,j8 (hend _ _ _ _)]
 . refine⟨1,_,_,_,_,?_,h.add (e:=⟨i,j⟩) (fun hm=>hc (.inr hm)), .inr ⟨hc,rfl⟩⟩
   have hij:i≠j:=fun e=>hc (.inl e)
   have hno:=h.no (e:=⟨i,j⟩) fun hm=>hc (.inr hm)
   have a1:app 8 ((dG cR out i).getD []) [j]=some ((dG cR out i).getD []++[j]):=dT (by have:=hlo i;simp;omega)
   have a2:app 8 ((dG cR mX j).getD []) [i]=some ((dG cR mX j).getD []++[i]):=dT (by have:=hli j;simp;omega)
   have c1:∀ x:Int,zC (cR x x=true)=some ():=fun x=>by unfold zC;rw[if_pos (gi.refl x)]
   have h1:G.fI [⟨i,j⟩] n (0,0,es,out,mX)=some (.inl (1,1,kZ eO es ⟨i,j⟩ true,kZ cR out i ((dG cR out i).getD []++[j]),kZ cR mX j ((dG cR mX j).getD []++[i]))):=by
    unfold G.fI
    rw[if_pos (by simp)]
    simp only[hx,ae,hv i hi hi',hv j hj hj',w1]
    simp[hij,hno,a1,a2,c1]
   rw[rh h1,j8 (hend _ _ _ _)]
end
end Go.Proofs.YtekpafdhgkocaaaGreat
namespace Go.Proofs.YtekpafdhgkocaaaGreat
open IntKind(i64)
open G
namespace G
section
variable {l:List G.Command}
def nb(l:List G.Command)(i:Nat):List Nat:=(List.range l.length).filter fun j=>decide (i≠j)&&Cl (cat l i) (cat l j)
def Pv(l:List G.Command)(k:Nat):List (Nat×Nat):=(List.range k).flatMap fun i=>(nb l i).map fun j=>(i,j)
theorem ya(l:List G.Command)(k:Nat):Pv l (k+1)=Pv l k++(nb l k).map fun j=>(k,j):=by
 unfold Pv
 rw[List.range_succ,List.flatMap_append]
 simp
theorem XT(l:List G.Command)(i:Nat):(nb l i).length<=l.length:=by
 unfold nb
 exact Nat.le_trans (bC _ _) (by simp)
theorem KO(l:List G.Command):∀ k,(Pv l k).length<=k*l.length
 | 0=>by simp[Pv]
 | k+1=>by
   rw[ya,aq,aI]
   have h1:=KO l k
   have h2:=XT l k
   rw[Nat.succ_mul]
   omega
theorem Hi{i j:Nat}:j∈nb l i↔j<l.length/\i≠j/\Cl (cat l i) (cat l j)=true:=by
 unfold nb
 rw[aR,List.mem_range]
 simp
theorem F0{k:Nat}{p:Nat×Nat}:p∈Pv l k↔p.1<k/\p.2∈nb l p.1:=by
 unfold Pv
 rw[List.mem_flatMap]
 constructor
 . rintro⟨i,hi,hp⟩
   obtain⟨j,hj,rfl⟩:=List.mem_map.1 hp
   exact⟨List.mem_range.1 hi,hj⟩
 . rintro⟨h1,h2⟩
   exact⟨p.1,List.mem_range.2 h1,List.mem_map.2 ⟨p.2,h2,rfl⟩⟩
def Vo(p:Nat×Nat):G.bP:=⟨(p.1:Int),(p.2:Int)⟩
def Xo(p:Nat×Nat):G.bN:=⟨(p.1:Int),(p.2:Int)⟩
theorem VW(l:List G.Command)(i j:Nat):((List.range (j+1)).filter fun j=>decide (i≠j)&&Cl (cat l i) (cat l j))=((List.range j).filter fun j=>decide (i≠j)&&Cl (cat l i) (cat l j))++(if(decide (i≠j)&&Cl (cat l i) (cat l j))=true then[j]else[]):=by
 rw[List.range_succ,List.filter_append]
 congr 1
 rw[List.filter_cons]
 split<;>rfl
theorem MC(h:Rt l){i:Nat}(hi:i<l.length)(N:Int){E0:List G.bP}(h0:E0.length<=900):
 Iter (G.lr l ((i:Int),N,E0)) (0,N,E0)=some (.inl (((i+1:Nat):Int),N,E0++(nb l i).map fun j=>Vo (i,j))):=by
 have hn:=h.len
 refine cD (f:=G.lr l ((i:Int),N,E0)) l.length (fun j=>((j:Int),N,E0++((List.range j).filter fun j=>decide (i≠j)&&Cl (cat l i) (cat l j)).map fun j=>Vo (i,j))) _ (fun j hj=>?_) ?_ (by simp)
 . unfold G.lr
   simp only
   rw[if_pos (by omega)]
   have hlen:((List.range j).filter fun j=>decide (i≠j)&&Cl (cat l i) (cat l j)).length<=30:=Nat.le_trans (bC _ _) (by simp;omega)
   have hv:(if(i:Int)≠(j:Int)then(idx l (i:Int)).bind fun x4=>(idx l (j:Int)).bind fun x5=>(G.qy x4 x5).bind fun y6=>some (decide (y6>(0:Int)))else some false)=some (decide (i≠j)&&Cl (cat l i) (cat l j)):=by
    by_cases e:i=j
    . rw[if_neg (by omega)];simp[e]
    . obtain⟨n,e1,e2⟩:=R7 (h.qq _ (az hi)) (h.qq _ (az hj))
      rw[if_pos (by omega),cH hi,cH hj]
      simp only[ae,e1]
      rw[bT hi,bT hj]
      by_cases hh:Cl l[i] l[j]=true
      . simp[e,hh,e2.2 hh]
      . have:¬ n>0:=fun hn=>hh (e2.1 hn)
        simp[e,hh,this]
   rw[hv]
   simp only[ae]
   rw[VW,bc]
   by_cases hb:(decide (i≠j)&&Cl (cat l i) (cat l j))=true
   . rw[if_pos hb,if_pos hb,dT (by simp only[aq,aI,bK,List.length_nil];omega)]
     simp only[ae]
     rw[dk hj (by omega),aA]
     rfl
   . rw[if_neg hb,if_neg hb,dk hj (by omega)]
     simp
 . unfold G.lr
   simp only
   rw[if_neg (by omega),dk hi (by omega)]
   rfl
theorem MD(h:Rt l):G.nA l=some ((l.length:Int),(Pv l l.length).map Vo):=by
 have hn:=h.len
 unfold G.nA
 refine cD (f:=G.ng l) l.length (fun i=>((i:Int),(l.length:Int),(Pv l i).map Vo)) _ (fun i hi=>?_) ?_ (by simp[Pv])
 . unfold G.ng
   rw[if_pos (by simp only;omega)]
   simp only
   have hl:=KO l i
   have:i*l.length<=30*30:=Nat.mul_le_mul (by omega) (by omega)
   rw[MC h hi _ (by rw[aI];omega),ya,bc,List.map_map]
   rfl
 . unfold G.ng
   rw[if_neg (by simp)]
end
end G
end Go.Proofs.YtekpafdhgkocaaaGreat
namespace Go.Proofs.YtekpafdhgkocaaaGreat
open IntKind(i64)
open G
namespace G
section
variable {l:List G.Command}
theorem Qx{L:List G.bN}{es:List (G.bN×Bool)}{out mX:List (Int×List Int)}{n i:Int}{e1:List (G.bN×Bool)}{o1 n1:List (Int×List Int)}{e2:List (G.bN×Bool)}{o2 n2:List (Int×List Int)}(hG:GR L es out mX){J:List Int}(hJ:∀ j∈J,0<=j/\j<n)(hJl:J.length<=50)(hL:L.length<=2000)(hi:0<=i)(hi':i<n)(hn:n<=1000):
 ∃ es' out' inn' L',Iter (G.pf (n,e1,o1,n1) (i,e2,o2,n2) J) (0,es,out,mX)=some (.inl (i+1,es',out',inn'))/\GR L' es' out' inn'/\L'.length<=L.length+J.length/\∀ e,e∈L'↔e∈L\/∃ j∈J,i≠j/\e=⟨i,j⟩:=by
 obtain⟨r,e,es',out',inn',L',rfl,h1,h2,h3⟩:=cu (f:=G.pf (n,e1,o1,n1) (i,e2,o2,n2) J)
  (fun m s=>∃ (k:Nat) (es':List (G.bN×Bool)) (out' inn':List (Int×List Int)) (L':List G.bN),s=((k:Int),es',out',inn')/\m=J.length-k/\k<=J.length/\GR L' es' out' inn'/\L'.length<=L.length+k/\∀ e,e∈L'↔e∈L\/∃ j∈J.take k,i≠j/\e=⟨i,j⟩)
  (fun r=>∃ (es':List (G.bN×Bool)) (out' inn':List (Int×List Int)) (L':List G.bN),r= .inl (i+1,es',out',inn')/\GR L' es' out' inn'/\L'.length<=L.length+J.length/\∀ e,e∈L'↔e∈L\/∃ j∈J,i≠j/\e=⟨i,j⟩) (by
   rintro m s ⟨k,es',out',inn',L',rfl,rfl,hk,h1,h2,h3⟩
   unfold G.pf
   simp only
   by_cases hlt:k<J.length
   . rw[if_pos (by omega),cH hlt]
     simp only[ae]
     obtain⟨j0,j1⟩:=hJ J[k] (az hlt)
     obtain⟨c,es2,out2,inn2,L2,q1,q2,q3⟩:=RM h1 hi hi' j0 j1 (by omega)
     rw[q1]
     simp only[ae]
     rw[dk hlt (by omega)]
     refine .inl ⟨J.length-(k+1),_,rfl,by omega,k+1,es2,out2,inn2,L2,rfl,rfl,by omega,q2,?_,fun e=>?_⟩
     . rcases q3 with⟨_,rfl⟩|⟨_,rfl⟩
       . omega
       . simp;omega
     . rw[aD hlt]
       rcases q3 with⟨q3,rfl⟩|⟨q3,rfl⟩
       . rw[h3]
         constructor
         . rintro(h|⟨j,hj,hne,he⟩)
           . exact .inl h
           . exact .inr ⟨j,bt _ hj,hne,he⟩
         . rintro(h|⟨j,hj,hne,he⟩)
           . exact .inl h
           . rcases aL.1 hj with hj|hj
             . exact .inr ⟨j,hj,hne,he⟩
             . rw[List.mem_singleton]at hj
               subst hj
               rcases q3 with q3|q3
               . exact absurd q3 hne
               . rw[he];exact(h3 _).1 q3
       . rw[aL,h3,List.mem_singleton]
         constructor
         . rintro((h|⟨j,hj,hne,he⟩)|h)
           . exact .inl h
           . exact .inr ⟨j,bt _ hj,hne,he⟩
           . exact .inr ⟨J[k],bL _ (by simp),fun e=>q3 (.inl e),h⟩
         . rintro(h|⟨j,hj,hne,he⟩)
           . exact .inl (.inl h)
           . rcases aL.1 hj with hj|hj
             . exact .inl (.inr ⟨j,hj,hne,he⟩)
             . rw[List.mem_singleton]at hj
               subst hj
               exact .inr he
   . have:k=J.length:=by omega
     subst this
     rw[if_neg (by omega),fB (x:=i+1) (by omega) (by omega)]
     rw[bD]at h3
     exact .inr ⟨_,rfl,es',out',inn',L',rfl,h1,h2,h3⟩) _ ((0:Int),es,out,mX) ⟨0,es,out,mX,L,rfl,rfl,Nat.zero_le _,hG,by omega,fun e=>by simp⟩
 exact⟨es',out',inn',L',e,h1,h2,h3⟩
theorem Oq(h:Rt l):∃ y,G.qk l=some (.inr y)/\US (l.map HV) y:=by
 have hn:=h.len
 have h1:Iter (G.ln l) ([],0)=some (l.map HV):=by
  refine cD (f:=G.ln l) l.length (fun k=>((l.take k).map HV,(k:Int))) _ (fun k hk=>?_) ?_ (by simp)
  . unfold G.ln
    rw[if_pos (by simp only;omega)]
    simp only[cH hk,ae,tB]
    rw[dT (by simp;omega),dk hk (by omega),aD hk,bc]
    rfl
  . unfold G.ln
    rw[if_neg (by simp)]
    simp
 have ha:=Rz h l.length
 rw[bD]at ha
 obtain⟨y,hy,hI⟩:=UU (B:=l.map HV) (fun e he=>by obtain⟨c,hc,rfl⟩:=List.mem_map.1 he;exact Yk (h.qq c hc)) (by simp;omega) ha
 refine⟨y,?_,hI⟩
 unfold G.qk
 rw[h1]
 simp only[ae,hy]
theorem S8(h:Rt l){y:List G.bO}(hI:US (l.map HV) y){i:Nat}(hi:i<l.length)(hk:l[i].kind=1):
 ∃ J:List Int,G.gF ⟨l[i].from_,l[i].len⟩ y=some J/\J.length<=50/\∀ j:Int,j∈J↔∃ k:Nat,j=(k:Int)/\k<l.length/\Cl (cat l i) (cat l k)=true:=by
 have hn:=h.len
 have hg:=h.qq _ (az hi)
 obtain⟨k1,k2,k3,k4,_⟩:=hg.copy hk
 have k5:=hg.ot
 rw[show eh l[i]=l[i].len by unfold eh;rw[if_pos hk]]at k5
 obtain⟨M,m1,m2,_,m4⟩:=UT hI (by rw[hI.len];simp;omega) (s:=⟨l[i].from_,l[i].len⟩) ⟨k1,k5,by have e:dM.dC=4611686018427387903:=rfl;rw[e]at k3;exact k3⟩
 refine⟨_,m1,by simp;omega,fun j=>?_⟩
 rw[List.mem_map]
 constructor
 . rintro⟨e,he,rfl⟩
   obtain⟨e1,e2⟩:=(m4 e).1 he
   obtain⟨k,hk',rfl⟩:=Da (hI.perm.mem_iff.1 e1)
   simp only[aI]at hk'
   refine⟨k,rfl,hk',?_⟩
   rw[bT hi,bT hk']
   simp only[List.getElem_map]at e2
   unfold EW uM HV at e2
   unfold Cl dK
   simp only[au]at e2 ⊢
   exact⟨hk,e2.2,e2.1⟩
 . rintro⟨k,rfl,hk',hh⟩
   rw[bT hi,bT hk']at hh
   refine⟨⟨(l.map HV)[k]'(by simpa using hk'),(k:Int)⟩,(m4 _).2 ⟨hI.perm.mem_iff.2 (S9 (by simpa using hk')),?_⟩,rfl⟩
   simp only[List.getElem_map]
   unfold EW uM HV
   unfold Cl dK at hh
   simp only[au]at hh ⊢
   exact⟨hh.2.2,hh.2.1⟩
end
end G
end Go.Proofs.YtekpafdhgkocaaaGreat
namespace Go.Proofs.YtekpafdhgkocaaaGreat
open IntKind(i64)
open G
namespace G
section
variable {l:List G.Command}
theorem XU{i:Nat}(hi:i<l.length)(hk:l[i].kind≠1):nb l i=[]:=by
 unfold nb
 rw[List.filter_eq_nil_iff]
 intro j _
 rw[bT hi]
 unfold Cl
 simp[hk]
theorem Nd(h:Rt l):∃ es out mX L,G.pI l=some ((l.length:Int),es,out,mX)/\GR L es out mX/\L.length<=50*l.length/\∀ e,e∈L↔∃ p∈Pv l l.length,e=Xo p:=by
 have hn:=h.len
 obtain⟨y,hy,hI⟩:=Oq h
 have hnew:G.sd (l.length:Int)=some ((l.length:Int),[],[],[]):=by
  unfold G.sd
  rw[if_neg (by omega)]
  simp only[ae]
  rw[if_neg (by simp;omega)]
 unfold G.pI
 rw[hnew]
 simp only[ae,hy]
 obtain⟨r,e,es,out,mX,L,rfl,h1,h2,h3⟩:=cu (f:=G.sM l ((l.length:Int),[],[],[]) y)
  (fun m s=>∃ (i:Nat) (es:List (G.bN×Bool)) (out mX:List (Int×List Int)) (L:List G.bN),s=((i:Int),es,out,mX)/\m=l.length-i/\i<=l.length/\GR L es out mX/\L.length<=50*i/\∀ e,e∈L↔∃ p∈Pv l i,e=Xo p)
  (fun r=>∃ (es:List (G.bN×Bool)) (out mX:List (Int×List Int)) (L:List G.bN),r=((l.length:Int),es,out,mX)/\GR L es out mX/\L.length<=50*l.length/\∀ e,e∈L↔∃ p∈Pv l l.length,e=Xo p) (by
   rintro m s ⟨i,es,out,mX,L,rfl,rfl,hi,h1,h2,h3⟩
   unfold G.sM
   simp only
   by_cases hlt:i<l.length
   . rw[if_pos (by omega),cH hlt]
     simp only[ae,Yh]
     by_cases hk:l[i].kind=1
     . rw[if_pos hk]
       simp only[if_true]
       obtain⟨J,j1,j2,j3⟩:=S8 h hI hlt hk
       rw[j1]
       simp only[ae]
       obtain⟨es',out',inn',L',q1,q2,q3,q4⟩:=Qx (n:=(l.length:Int)) (i:=(i:Int)) (e1:=[]) (o1:=[]) (n1:=[]) (e2:=es) (o2:=out) (n2:=mX) h1 (J:=J) (fun j hj=>by obtain⟨k,rfl,hk',_⟩:=(j3 j).1 hj;omega) j2 (by omega) (by omega) (by omega) (by omega)
       rw[q1]
       refine .inl ⟨l.length-(i+1),_,rfl,by omega,i+1,es',out',inn',L',by simp,rfl,by omega,q2,by omega,fun e=>?_⟩
       rw[q4,h3]
       constructor
       . rintro(⟨p,hp,he⟩|⟨j,hj,hne,he⟩)
         . exact⟨p,by rw[ya];exact bt _ hp,he⟩
         . obtain⟨k,rfl,hk',hh⟩:=(j3 j).1 hj
           refine⟨(i,k),?_,he⟩
           rw[ya]
           exact bL _ (List.mem_map.2 ⟨k,Hi.2 ⟨hk',fun e=>hne (by rw[e]),hh⟩,rfl⟩)
       . rintro⟨p,hp,he⟩
         rw[ya]at hp
         rcases aL.1 hp with hp|hp
         . exact .inl ⟨p,hp,he⟩
         . obtain⟨k,hk2,rfl⟩:=List.mem_map.1 hp
           obtain⟨k1,k2,k3⟩:=Hi.1 hk2
           exact .inr ⟨(k:Int),(j3 _).2 ⟨k,rfl,k1,k3⟩,by omega,he⟩
     . rw[if_neg hk]
       simp only[aJ,if_false]
       rw[dk hlt (by omega)]
       refine .inl ⟨l.length-(i+1),_,rfl,by omega,i+1,es,out,mX,L,rfl,rfl,by omega,h1,by omega,fun e=>?_⟩
       rw[h3,ya,XU hlt hk]
       simp
   . have:i=l.length:=by omega
     subst this
     rw[if_neg (by omega)]
     exact .inr ⟨_,rfl,es,out,mX,L,rfl,h1,h2,h3⟩) _ ((0:Int),[],[],[]) ⟨0,[],[],[],[],rfl,rfl,Nat.zero_le _,GR.nil,by simp,fun e=>by simp[Pv]⟩
 exact⟨es,out,mX,L,e,h1,h2,h3⟩
theorem QU{α β:Type}{f:α->β}(hf:∀ a b,f a=f b->a=b){l:List α}(h:l.Nodup):(l.map f).Nodup:=
 List.pairwise_map.2 (List.Pairwise.imp (fun hne e=>hne (hf _ _ e)) h)
end
end G
end Go.Proofs.YtekpafdhgkocaaaGreat
namespace Go.Proofs.YtekpafdhgkocaaaGreat
open IntKind(i64)
open G
namespace G
theorem Na(v:List Int)(hn:v.length<=10000):G.dE v=some v:=by
 unfold G.dE G.dz G.dU
 have h1:Iter (G.cn v) (0,[])=some v:=by
  refine cD (f:=G.cn v) v.length (fun k=>((k:Int),v.take k)) _ (fun k hk=>?_) ?_ (by simp)
  . unfold G.cn G.fy
    rw[if_pos (by simp only;omega),cH hk]
    simp only[ae]
    rw[dT (by simp;omega),dk hk (by omega),aD hk]
    rfl
  . unfold G.cn
    rw[if_neg (by simp),bD]
 rw[h1];rfl
theorem JC{a b:List Int}(h:a.Perm b)(ha:a.Pairwise (· <= ·))(hb:b.Pairwise (· <= ·)):a=b:=
 List.Perm.eq_of_pairwise (le:=(· <= ·)) (fun x y _ _ h1 h2=>Int.le_antisymm h1 h2) ha hb h
end G
end Go.Proofs.YtekpafdhgkocaaaGreat
