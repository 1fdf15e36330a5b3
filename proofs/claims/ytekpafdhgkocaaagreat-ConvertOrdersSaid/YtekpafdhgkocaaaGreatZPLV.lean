/- Part of the proof. -/
import Derived.Test.YtekpafdhgkocaaaGreatZPQ0
namespace Go.Proofs.YtekpafdhgkocaaaGreat
open IntKind(i64)
open G
namespace G
def eD(c:bO):Int:=if c.kind=1 then c.len else(c.data.length:Int)
def ed(c:bO):Int:=c.to+eD c
theorem vx(c:bO):gV c=some ⟨c.to,eD c⟩:=by unfold gV vB eD;split<;>rfl
theorem Jw(c:bO):kY c=some (eD c):=by unfold kY eD;split<;>rfl
theorem yg(c:bO):gN c=some ⟨c.to,eD c⟩:=by unfold gN;rw[Jw];rfl
def Pg(o n:Int):Bool:=decide (0<=o/\0<=n/\o+n<=4611686018427387903)
theorem zI{o n:Int}:Pg o n=true↔0<=o/\0<=n/\o+n<=4611686018427387903:=by unfold Pg;simp
theorem Pw(e:cc):mi e=some (Pg e.off e.len):=by
 have hm:lP e.off e.len≥0↔0<=e.off/\0<=e.len:=by unfold lP;split<;>omega
 unfold mi Pg;by_cases h:0<=e.off/\0<=e.len
 . rw[if_pos (hm.2 h)];split
   . rw[fm (by omega) (by omega)];congr 1;rw[bp];omega
   . congr 1;symm;rw[bf];omega
 . rw[if_neg (fun k=>h (hm.1 k))];congr 1;symm;rw[bf];omega
theorem UF(e:cc):o9 e=some (Pg e.off e.len):=by
 unfold o9 Pg fu;simp only[ae];split
 . split
   . split
     . rw[fm (by omega) (by omega)];congr 1;rw[bp];omega
     . congr 1;symm;rw[bf];omega
   . congr 1;symm;rw[bf];omega
 . congr 1;symm;rw[bf];omega
def Jj(c:bO):Int:=
 if c.kind≠1/\c.kind≠2 then 11 else if eD c=0 then 7 else if Pg c.to (eD c)=false then 2 else
  if c.kind=1 then(if c.data.length=0/\Pg c.cp c.len=true then 0 else 2)else if c.cp=0/\c.len=0 then 0 else 2
theorem Wg(c:bO):vX c=some (Jj c):=by
 have e1:vB c=some ⟨⟨c.to,eD c⟩⟩:=by unfold vB eD;split<;>rfl
 unfold vX Jj;simp only[e1,Pw,ae];by_cases k1:c.kind=1
 . by_cases t0:eD c=0
   . simp[k1,t0]
   . cases hv:Pg c.to (eD c)
     . simp[k1,t0,hv]
     . by_cases d0:c.data.length=0
       . cases hw:Pg c.cp c.len<;>simp[k1,t0,hv,d0,hw]
       . have:¬ (c.data.length:Int)=0:=by omega
         simp[k1,t0,hv,d0,this]
 . by_cases k2:c.kind=2
   . by_cases t0:eD c=0
     . simp[k2,t0]
     . cases hv:Pg c.to (eD c)
       . simp[k2,t0,hv]
       . by_cases f0:c.cp=0
         . by_cases l0:c.len=0<;>simp[k2,t0,hv,f0,l0]
         . simp[k2,t0,hv,f0]
   . simp[k1,k2]
theorem Ux(c:bO):rV c=some (Jj c):=by
 unfold rV Jj nJ;simp only[yg,Jw,UF,ae];by_cases k1:c.kind=1
 . by_cases t0:eD c=0
   . simp[k1,t0]
   . cases hv:Pg c.to (eD c)
     . simp[k1,t0,hv]
     . by_cases d0:c.data.length=0
       . have:¬ (c.data.length:Int)>0:=by omega
         cases hw:Pg c.cp c.len<;>simp[k1,t0,hv,d0,hw]
       . have:0<c.data.length:=by omega
         simp[k1,t0,hv,d0,this]
 . by_cases k2:c.kind=2
   . by_cases t0:eD c=0
     . simp[k2,t0]
     . cases hv:Pg c.to (eD c)
       . simp[k2,t0,hv]
       . by_cases f0:c.cp=0
         . by_cases l0:c.len=0<;>simp[k2,t0,hv,f0,l0]
         . simp[k2,t0,hv,f0]
   . simp[k1,k2]
theorem Hq{c:bO}(h:Jj c=0):0<=c.to/\1<=eD c/\ed c<=4611686018427387903/\(c.kind=1->0<=c.cp/\0<=c.len/\c.cp+c.len<=4611686018427387903/\c.data=[])/\(c.kind≠1->c.kind=2/\c.cp=0/\c.len=0):=by
 unfold Jj at h;split at h
 . omega
 . rename_i hk;split at h
   . omega
   . rename_i ht;split at h
     . omega
     . rename_i hv;have hv':=zI.1 (by simpa using hv);refine⟨hv'.1,by omega,hv'.2.2,fun k1=>?_,fun k1=>?_⟩
       . rw[if_pos k1]at h;split at h
         . rename_i hd;have:=zI.1 hd.2;exact⟨this.1,this.2.1,this.2.2,bM hd.1⟩
         . omega
       . rw[if_neg k1]at h;split at h
         . rename_i hd;exact⟨by omega,hd.1,hd.2⟩
         . omega
def QZ(d:bZ)(c:bO):Int:=if Jj c≠0 then Jj c else if c.kind=1/\c.cp+c.len>d.cZ then 5 else if ed c>d.cd then 6 else 0
theorem Nz(d:bZ)(c:bO):xz d c=some (QZ d c):=by
 unfold xz QZ dU fX;simp only[Wg,vx,ae];by_cases h:Jj c=0
 . have hz:=Hq h;simp only[h,ne_eq,not_true_eq_false,if_false];have e1:i64.wrap (c.to+eD c)=ed c:=fm (by unfold ed at hz;omega) (by unfold ed at hz;omega);by_cases k1:c.kind=1
   . have h2:=hz.2.2.2.1 k1;have e2:i64.wrap (c.cp+c.len)=c.cp+c.len:=fm (by omega) (by omega);by_cases h3:c.cp+c.len>d.cZ<;>by_cases h4:ed c>d.cd<;>simp[k1,h3,h4,e1,e2]
   . by_cases h4:ed c>d.cd<;>simp[k1,h4,e1]
 . simp only[h,ne_eq,not_false_eq_true,if_true]
theorem BI(d:bZ)(c:bO):qR d c=some (QZ d c):=by
 unfold qR QZ;simp only[Ux,Jw,ae];by_cases h:Jj c=0
 . have hz:=Hq h;simp only[h,ne_eq,not_true_eq_false,if_false];have e1:i64.wrap (c.to+eD c)=ed c:=fm (by unfold ed at hz;omega) (by unfold ed at hz;omega);by_cases k1:c.kind=1
   . have h2:=hz.2.2.2.1 k1;have e2:i64.wrap (c.cp+c.len)=c.cp+c.len:=fm (by omega) (by omega);by_cases h3:c.cp+c.len>d.cZ<;>by_cases h4:ed c>d.cd<;>simp[k1,h3,h4,e1,e2]
   . by_cases h4:ed c>d.cd<;>simp[k1,h4,e1]
 . simp only[h,ne_eq,not_false_eq_true,if_true]
structure Good(d:bZ)(c:bO):Prop where
 JY:0<=c.to
 qM:1<=eD c
 fits:ed c<=d.cd
 max:ed c<=4611686018427387903
 copy:c.kind=1->0<=c.cp/\0<=c.len/\c.cp+c.len<=d.cZ/\c.cp+c.len<=4611686018427387903/\c.data=[]
 lit:c.kind≠1->c.kind=2/\c.cp=0/\c.len=0
theorem yH{d:bZ}{c:bO}:QZ d c=0↔Good d c:=by
 constructor
 . intro h;unfold QZ at h;split at h
   . rename_i h1;exact absurd h h1
   . rename_i h1;have hz:=Hq (by simpa using h1);split at h
     . omega
     . rename_i h2;split at h
       . omega
       . rename_i h3;exact⟨hz.1,hz.2.1,by omega,hz.2.2.1,fun k=>by have:=hz.2.2.2.1 k;exact⟨this.1,this.2.1,by have:=fun q=>h2 ⟨k,q⟩;omega,this.2.2.1,this.2.2.2⟩,hz.2.2.2.2⟩
 . intro h;have hc:Jj c=0:=by
    unfold Jj;have hk:¬ (c.kind≠1/\c.kind≠2):=fun k=>k.2 (h.lit k.1).1
    have:=h.JY;have:=h.qM;have:=h.max;rw[if_neg hk,if_neg (by omega),if_neg (by rw[zI.2 ⟨h.JY,by omega,h.max⟩];simp)];by_cases k1:c.kind=1
    . have hq:=h.copy k1;rw[if_pos k1,if_pos ⟨by rw[hq.2.2.2.2];rfl,zI.2 ⟨hq.1,hq.2.1,hq.2.2.2.1⟩⟩]
    . have hq:=h.lit k1;rw[if_neg k1,if_pos ⟨hq.2.1,hq.2.2⟩]
   unfold QZ;rw[if_neg (by simpa using hc),if_neg (fun k=>by have:=(h.copy k.1).2.2.1;omega),if_neg (by have:=h.fits;omega)]
theorem Yz{d:bZ}{c:bO}:QZ d c≠0↔¬ Good d c:=not_congr yH
def ov(a b:bO):Bool:=decide (a.to<ed b/\b.to<ed a)
theorem OQ(a b:bO):ov a b=ov b a:=by unfold ov;rw[bp];omega
theorem J6{d:bZ}{a b:bO}(ha:Good d a)(hb:Good d b):∃e,gX ⟨a.to,eD a⟩ ⟨b.to,eD b⟩=some (e,ov a b):=by
 have:=ha.JY;have:=hb.JY;have:=ha.max;have:=hb.max;have:=ha.qM;have:=hb.qM;unfold gX fX rk;simp only[ae];unfold ed at*
 rw[fm (x:=a.to+eD a) (by omega) (by omega),fm (x:=b.to+eD b) (by omega) (by omega)];have hx:lP (a.to+eD a) (b.to+eD b)-imax a.to b.to<=4611686018427387903/\ -4611686018427387903<=lP (a.to+eD a) (b.to+eD b)-imax a.to b.to/\(lP (a.to+eD a) (b.to+eD b)-imax a.to b.to<1↔¬ (a.to<b.to+eD b/\b.to<a.to+eD a)):=by
  unfold lP imax;split<;>split<;>omega
 rw[fm (by omega) (by omega)];unfold ov ed;split
 . rename_i h;exact⟨_,by rw[decide_eq_false (hx.2.2.1 h)];rfl⟩
 . rename_i h;exact⟨_,by rw[aG (Classical.not_not.1 (fun k=>h (hx.2.2.2 k)))];rfl⟩
theorem IA{d:bZ}{a b:bO}(ha:Good d a)(hb:Good d b):∃e,jU ⟨a.to,eD a⟩ ⟨b.to,eD b⟩=some e/\decide (e.len>0)=ov a b:=by
 have:=ha.JY;have:=hb.JY;have:=ha.max;have:=hb.max;have:=ha.qM;have:=hb.qM;unfold jU;simp only;unfold ed at*
 rw[fm (x:=a.to+eD a) (by omega) (by omega),fm (x:=b.to+eD b) (by omega) (by omega)];have hx:lP (a.to+eD a) (b.to+eD b)-imax a.to b.to<=4611686018427387903/\ -4611686018427387903<=lP (a.to+eD a) (b.to+eD b)-imax a.to b.to/\(imax a.to b.to≥lP (a.to+eD a) (b.to+eD b)↔¬ (a.to<b.to+eD b/\b.to<a.to+eD a)):=by
  unfold lP imax;split<;>split<;>omega
 unfold ov ed;split
 . rename_i h;exact⟨_,rfl,by rw[decide_eq_false (hx.2.2.1 h)];rfl⟩
 . rename_i h;refine⟨_,rfl,?_⟩;rw[fm (by omega) (by omega),bp];constructor
   . intro _;exact Classical.not_not.1 (fun k=>h (hx.2.2.2 k))
   . intro _;show lP (a.to+eD a) (b.to+eD b)-imax a.to b.to>0;omega
abbrev cat(l:List bO)(i:Nat):bO:=l.getD i default
theorem bW{l:List bO}{i:Nat}(h:i<l.length):cat l i=l[i]:=by simp[cat,h]
def QB(l:List bO)(i:Nat):Bool:=(l.take i).any fun c=>ov (cat l i) c
end G
end Go.Proofs.YtekpafdhgkocaaaGreat
namespace Go.Proofs.YtekpafdhgkocaaaGreat
open IntKind(i64)
open G
namespace G
def Ix(l:List bO)(x:Int):Prop:=0<=x/\x<l.length
def key(l:List bO)(x:Int):Int:=(l.getD x.toNat default).to
theorem zS{l:List bO}{x y:Int}(hx:Ix l x)(hy:Ix l y):∃c,mT x y l=some c/\(c<0↔key l x<key l y):=by
 unfold mT lN iX key;obtain⟨h1,h2⟩:=hx;obtain⟨h3,h4⟩:=hy;rw[xY (k:=x.toNat) default (by omega) (by omega),xY (k:=y.toNat) default (by omega) (by omega)];simp only[ae,bne_self_eq_false,aM,if_false];generalize (l.getD x.toNat default).to=p;generalize (l.getD y.toNat default).to=q;split
 . exact⟨_,rfl,by omega⟩
 . split
   . exact⟨_,rfl,by omega⟩
   . exact⟨_,rfl,by omega⟩
def sw(ys:List Int)(i j:Nat):List Int:=(ys.set i (ys.getD j 0)).set j (ys.getD i 0)
theorem F4(ys:List Int)(i p:Nat)(v:Int):(ys.set i v).getD p 0=if p=i/\i<ys.length then v else ys.getD p 0:=by
 simp only[List.getD_eq_getElem?_getD,List.getElem?_set];by_cases h:i=p
 . subst h;by_cases h2:i<ys.length<;>simp[h2]
 . rw[if_neg h,if_neg (fun k=>h k.1.symm)]
theorem Iq{ys:List Int}{i j:Nat}(hi:i<ys.length)(hj:j<ys.length)(p:Nat):(sw ys i j).getD p 0=if p=j then ys.getD i 0 else if p=i then ys.getD j 0 else ys.getD p 0:=by
 unfold sw;rw[F4,F4];simp only[bK];by_cases h1:p=j
 . rw[if_pos ⟨h1,hj⟩,if_pos h1]
 . rw[if_neg (fun k=>h1 k.1),if_neg h1];by_cases h2:p=i
   . rw[if_pos ⟨h2,hi⟩,if_pos h2]
   . rw[if_neg (fun k=>h2 k.1),if_neg h2]
theorem JW{ys:List Int}{i j:Nat}(hi:i<ys.length)(hj:j<ys.length):(sw ys i j).Perm ys:=by
 unfold sw;have e1:ys.getD j 0=ys[j]:=by simp[hj]
 have e2:ys.getD i 0=ys[i]:=by simp[hi]
 rw[e1,e2];exact List.set_set_perm hi hj
structure Pm(xs ys:List Int)(lo hi:Nat):Prop where
 perm:ys.Perm xs
 out:∀p,p<lo\/hi<=p->ys.getD p 0=xs.getD p 0
theorem Pm.refl(xs:List Int)(lo hi:Nat):Pm xs xs lo hi:=⟨.refl _,fun _ _=>rfl⟩
theorem Pm.trans{xs ys zs:List Int}{lo hi:Nat}(h:Pm xs ys lo hi)(k:Pm ys zs lo hi):Pm xs zs lo hi:=⟨k.perm.trans h.perm,fun p hp=>(k.out p hp).trans (h.out p hp)⟩
theorem Pm.mono{xs ys:List Int}{lo hi lo' hi':Nat}(h:Pm xs ys lo hi)(h1:lo'<=lo)(h2:hi<=hi'):Pm xs ys lo' hi':=⟨h.perm,fun p hp=>h.out p (by omega)⟩
theorem Pm.len{xs ys:List Int}{lo hi:Nat}(h:Pm xs ys lo hi):ys.length=xs.length:=h.perm.length_eq
theorem Pm.sw{xs ys:List Int}{lo hi i j:Nat}(h:Pm xs ys lo hi)(hi1:lo<=i/\i<hi)(hj1:lo<=j/\j<hi)(hl:hi<=xs.length):Pm xs (sw ys i j) lo hi:=by
 have hlen:=h.len;refine⟨(JW (by omega) (by omega)).trans h.perm,fun p hp=>?_⟩;rw[Iq (by omega) (by omega),if_neg (by omega),if_neg (by omega)];exact h.out p hp
def xo(l:List bO)(ys:List Int):Prop:=∀x∈ys,Ix l x
theorem Pm.all{l:List bO}{xs ys:List Int}{lo hi:Nat}(h:Pm xs ys lo hi)(ha:xo l xs):xo l ys:=fun x hx=>ha x (h.perm.mem_iff.1 hx)
theorem xo.get{l:List bO}{ys:List Int}(h:xo l ys){p:Nat}(hp:p<ys.length):Ix l (ys.getD p 0):=by
 have:ys.getD p 0=ys[p]:=by simp[hp]
 rw[this];exact h _ (az hp)
def uA(l:List bO)(ys:List Int)(lo hi:Nat):Prop:=∀p q,lo<=p->p<q->q<hi->key l (ys.getD p 0)<=key l (ys.getD q 0)
theorem uA.uQ{l:List bO}{xs ys:List Int}{lo hi a b:Nat}(h:uA l xs lo hi)(hp:Pm xs ys a b)(hd:hi<=a\/b<=lo):uA l ys lo hi:=fun p q h1 h2 h3=>by
 rw[hp.out p (by omega),hp.out q (by omega)];exact h p q h1 h2 h3
def UL:Nat:=1125899906842624
theorem tH:UL=1125899906842624:=rfl
section
variable {l:List bO}
theorem Vi{a i:Nat}{ys:List Int}{w:Int×List Int}(hw:w.1=(i:Int))(hall:xo l ys)(hi:i<ys.length)(ha:a<=i)(hb:ys.length<=UL)(hs:uA l ys a i):
 ∃zs,Iter (dc (a:Int) l w) ((i:Int),ys)=some (.inl (((i+1:Nat):Int),zs))/\Pm ys zs a (i+1)/\uA l zs a (i+1):=by
 rw[tH]at hb
 obtain⟨r,hr,zs,rfl,h1,h2⟩:=cn (f:=dc (a:Int) l w)
  (fun k s=>∃(j:Nat) (zs:List Int),s=((j:Int),zs)/\k=j/\a<=j/\j<=i/\Pm ys zs a (i+1)/\∀p q,a<=p->p<q->q<=i->q≠j->key l (zs.getD p 0)<=key l (zs.getD q 0))
  (fun r=>∃zs,r=.inl (((i+1:Nat):Int),zs)/\Pm ys zs a (i+1)/\uA l zs a (i+1)) (by
  rintro k s ⟨j,zs,rfl,hkj,hj1,hj2,hp,ho⟩
  have hlen:=hp.len
  have hal:=hp.all hall
  unfold dc
  have done:(∀p,a<=p->p<j->key l (zs.getD p 0)<=key l (zs.getD j 0))->uA l zs a (i+1):=fun hd p q h1 h2 h3=>by
   by_cases hq:q=j
   . subst hq;exact hd p h1 h2
   . exact ho p q h1 h2 (by omega) hq
  by_cases hja:j>a
  . have hj':i64.wrap ((j:Int)-1)=((j-1:Nat):Int):=by rw[fm (by omega) (by omega)];omega
    obtain⟨c,hc,hcl⟩:=zS (l:=l) (hal.get (p:=j) (by omega)) (hal.get (p:=j-1) (by omega))
    rw[if_pos (show(j:Int)>(a:Int)by omega),hj',eG (0:Int) (show j<zs.length by omega),eG (0:Int) (show j-1<zs.length by omega)]
    simp only[ae,hc]
    by_cases hlt:c<0
    . left
      rw[if_pos (by simpa using hlt)]
      obtain⟨x,hx⟩:=wD (l:=zs.set j (zs.getD (j-1) 0)) (i:=((j-1:Nat):Int)) (k:=j-1) rfl (by simp;omega)
      simp only[aP,hx,ae]
      refine⟨j-1,_,rfl,by omega,j-1,sw zs j (j-1),rfl,rfl,by omega,by omega,hp.sw (by omega) (by omega) (by omega),fun p q h1 h2 h3 h4=>?_⟩
      rw[Iq (by omega) (by omega),Iq (by omega) (by omega)]
      have hk:=hcl.1 hlt
      by_cases e1:p=j-1
      . rw[if_pos e1]
        by_cases e2:q=j
        . rw[if_neg (by omega),if_pos e2];omega
        . rw[if_neg h4,if_neg e2]
          exact ho j q (by omega) (by omega) h3 e2
      . rw[if_neg e1]
        by_cases e3:p=j
        . rw[if_pos e3,if_neg h4,if_neg (by omega)]
          exact ho (j-1) q (by omega) (by omega) h3 (by omega)
        . rw[if_neg e3,if_neg h4]
          by_cases e2:q=j
          . rw[if_pos e2];exact ho p (j-1) h1 (by omega) (by omega) (by omega)
          . rw[if_neg e2];exact ho p q h1 h2 h3 e2
    . right
      rw[if_neg (by simpa using hlt)]
      refine⟨_,rfl,zs,by rw[hw,df (n:=1125899906842625) (by omega) (by omega)],hp,done fun p h1 h2=>?_⟩
      have hk:key l (zs.getD (j-1) 0)<=key l (zs.getD j 0):=by
       have:=fun h=>hlt (hcl.2 h)
       omega
      by_cases e:p=j-1
      . rw[e];exact hk
      . exact Int.le_trans (ho p (j-1) h1 (by omega) (by omega) (by omega)) hk
  . right
    rw[if_neg (show ¬ (j:Int)>(a:Int)by omega)]
    simp only[ae,aM,if_false]
    exact⟨_,rfl,zs,by rw[hw,df (n:=1125899906842625) (by omega) (by omega)],hp,done fun p h1 h2=>by omega⟩) i ((i:Int),ys) ⟨i,ys,rfl,rfl,ha,Nat.le_refl _,Pm.refl _ _ _,fun p q h1 h2 h3 h4=>hs p q h1 h2 (by omega)⟩
 exact⟨zs,hr,h1,h2⟩
theorem F7{a b:Nat}{ys:List Int}(hall:xo l ys)(hab:a<=b)(hbl:b<=ys.length)(hb:ys.length<=UL):
 ∃zs,cM ys (a:Int) (b:Int) l=some zs/\Pm ys zs a b/\uA l zs a b:=by
 have hb':=hb
 rw[tH]at hb'
 unfold cM
 rw[df (k:=a) (n:=1125899906842625) (by omega) (by omega)]
 refine cn (fun k s=>∃(i:Nat) (zs:List Int),s=((i:Int),zs)/\k=b+1-i/\a+1<=i/\(i<=b\/i=a+1)/\Pm ys zs a b/\uA l zs a i)
  (fun zs=>Pm ys zs a b/\uA l zs a b) ?_ _ _ ⟨a+1,ys,rfl,rfl,Nat.le_refl _,.inr rfl,Pm.refl _ _ _,fun p q h1 h2 h3=>by omega⟩
 rintro k s ⟨i,zs,rfl,rfl,h1,h2,hp,hs⟩
 have hlen:=hp.len
 unfold fO
 by_cases hib:i<b
 . left
   rw[if_pos (show(i:Int)<(b:Int)by omega)]
   obtain⟨ws,hw,h3,h4⟩:=Vi (l:=l) (a:=a) (i:=i) (ys:=zs) (w:=((i:Int),zs)) rfl (hp.all hall) (by omega) (by omega) (by rw[tH];omega) hs
   exact⟨b+1-(i+1),_,hw,by omega,i+1,ws,rfl,rfl,by omega,.inl (by omega),hp.trans (h3.mono (Nat.le_refl _) (by omega)),h4⟩
 . right
   rw[if_neg (show ¬ (i:Int)<(b:Int)by omega)]
   exact⟨_,rfl,hp,fun p q h3 h4 h5=>hs p q h3 h4 (by omega)⟩
theorem BP{a b n:Nat}{ys:List Int}(hab:a+n<=b)(hbl:b+n<=ys.length)(hb:ys.length<=UL):
 ∃zs,cy ys (a:Int) (b:Int) (n:Int) l=some zs/\zs.Perm ys/\
  ∀p,zs.getD p 0=if a<=p/\p<a+n then ys.getD (p-a+b) 0 else if b<=p/\p<b+n then ys.getD (p-b+a) 0 else ys.getD p 0:=by
 rw[tH]at hb
 unfold cy
 refine cn (fun k s=>∃(i:Nat) (zs:List Int),s=((i:Int),zs)/\k=n-i/\i<=n/\zs.Perm ys/\∀p,zs.getD p 0=if a<=p/\p<a+i then ys.getD (p-a+b) 0 else if b<=p/\p<b+i then ys.getD (p-b+a) 0 else ys.getD p 0)
  (fun zs:List Int=>zs.Perm ys/\∀p,zs.getD p 0=if a<=p/\p<a+n then ys.getD (p-a+b) 0 else if b<=p/\p<b+n then ys.getD (p-b+a) 0 else ys.getD p 0) ?_ _ _
  ⟨0,ys,rfl,rfl,Nat.zero_le _,.refl _,fun p=>by rw[if_neg (by omega),if_neg (by omega)]⟩
 rintro k s ⟨i,zs,rfl,rfl,hi,hp,hg⟩
 have hlen:=hp.length_eq
 unfold gA
 by_cases hin:i<n
 . left
   have e1:i64.wrap ((a:Int)+(i:Int))=((a+i:Nat):Int):=by rw[fm (by omega) (by omega)];omega
   have e2:i64.wrap ((b:Int)+(i:Int))=((b+i:Nat):Int):=by rw[fm (by omega) (by omega)];omega
   rw[if_pos (show(i:Int)<(n:Int)by omega),e1,e2,eG (0:Int) (show b+i<zs.length by omega),eG (0:Int) (show a+i<zs.length by omega)]
   obtain⟨x,hx⟩:=wD (l:=zs.set (a+i) (zs.getD (b+i) 0)) (i:=((b+i:Nat):Int)) (k:=b+i) rfl (by simp;omega)
   simp only[ae,aP,hx,df hin (by omega)]
   refine⟨n-(i+1),_,rfl,by omega,i+1,sw zs (a+i) (b+i),rfl,rfl,by omega,(JW (by omega) (by omega)).trans hp,fun p=>?_⟩
   rw[Iq (by omega) (by omega),hg (a+i),hg (b+i),hg p]
   repeat' split
   all_goals first|rfl|omega|(congr 1;omega)
 . right
   rw[if_neg (show ¬ (i:Int)<(n:Int)by omega)]
   have:i=n:=by omega
   subst this
   exact⟨_,rfl,hp,hg⟩
def LF(f:Nat->Int)(lo m hi p:Nat):Int:=if p<lo\/hi<=p then f p else if p<lo+(hi-m)then f (p+(m-lo))else f (p-(hi-m))
theorem VN{a m b:Nat}{ys:List Int}(ham:a<m)(hmb:m<b)(hbl:b<=ys.length)(hb:ys.length<=UL):
 ∃zs,dm ys (a:Int) (m:Int) (b:Int) l=some zs/\zs.Perm ys/\∀p,zs.getD p 0=LF (fun p=>ys.getD p 0) a m b p:=by
 have hb':=hb
 rw[tH]at hb'
 unfold dm
 have e1:i64.wrap ((m:Int)-(a:Int))=((m-a:Nat):Int):=by rw[fm (by omega) (by omega)];omega
 have e2:i64.wrap ((b:Int)-(m:Int))=((b-m:Nat):Int):=by rw[fm (by omega) (by omega)];omega
 rw[e1,e2]
 obtain⟨r,hr,i,zs,rfl,hi1,hi2,hi3,hp,hg⟩:=cn (f:=eJ (m:Int) l)
  (fun k s=>∃(i j:Nat) (zs:List Int),s=((i:Int),(j:Int),zs)/\k=i+j/\0<i/\0<j/\i<=m-a/\j<=b-m/\zs.Perm ys/\∀p,LF (fun p=>ys.getD p 0) a m b p=LF (fun p=>zs.getD p 0) (m-i) m (m+j) p)
  (fun r=>∃(i:Nat) (zs:List Int),r=((i:Int),zs)/\0<i/\i<=m-a/\i<=b-m/\zs.Perm ys/\∀p,LF (fun p=>ys.getD p 0) a m b p=LF (fun p=>zs.getD p 0) (m-i) m (m+i) p) (by
  rintro k s ⟨i,j,zs,rfl,rfl,h1,h2,h3,h4,hp,hg⟩
  have hlen:=hp.length_eq
  have e3:i64.wrap ((m:Int)-(i:Int))=((m-i:Nat):Int):=by rw[fm (by omega) (by omega)];omega
  unfold eJ
  by_cases hij:i=j
  . right
    subst hij
    rw[if_neg (by simp)]
    exact⟨_,rfl,i,zs,rfl,h1,h3,h4,hp,hg⟩
  . left
    rw[if_pos (show((i:Int),(j:Int),zs).1≠((i:Int),(j:Int),zs).2.1 by simp;omega)]
    by_cases hgt:i>j
    . rw[if_pos (show((i:Int),(j:Int),zs).1>((i:Int),(j:Int),zs).2.1 by simp;omega)]
      obtain⟨ws,hw,hq,hz⟩:=BP (l:=l) (a:=m-i) (b:=m) (n:=j) (ys:=zs) (by omega) (by omega) (by rw[tH];omega)
      have e4:i64.wrap ((i:Int)-(j:Int))=((i-j:Nat):Int):=by rw[fm (by omega) (by omega)];omega
      simp only[e3,hw,ae,e4]
      refine⟨i-j+j,_,rfl,by omega,i-j,j,ws,rfl,rfl,by omega,h2,by omega,h4,hq.trans hp,fun p=>?_⟩
      rw[hg p]
      unfold LF
      simp only[hz]
      repeat' split
      all_goals first|rfl|omega|(congr 1;omega)
    . rw[if_neg (show ¬ ((i:Int),(j:Int),zs).1>((i:Int),(j:Int),zs).2.1 by simp;omega)]
      have e5:i64.wrap (i64.wrap ((m:Int)+(j:Int))-(i:Int))=((m+j-i:Nat):Int):=by rw[fm (x:=(m:Int)+(j:Int)) (by omega) (by omega),fm (by omega) (by omega)];omega
      obtain⟨ws,hw,hq,hz⟩:=BP (l:=l) (a:=m-i) (b:=m+j-i) (n:=i) (ys:=zs) (by omega) (by omega) (by rw[tH];omega)
      have e4:i64.wrap ((j:Int)-(i:Int))=((j-i:Nat):Int):=by rw[fm (by omega) (by omega)];omega
      simp only[e3,e5,hw,ae,e4]
      refine⟨i+(j-i),_,rfl,by omega,i,j-i,ws,rfl,rfl,h1,by omega,h3,by omega,hq.trans hp,fun p=>?_⟩
      rw[hg p]
      unfold LF
      simp only[hz]
      repeat' split
      all_goals first|rfl|omega|(congr 1;omega)) _ _
  ⟨m-a,b-m,ys,rfl,rfl,by omega,by omega,Nat.le_refl _,Nat.le_refl _,.refl _,fun p=>by rw[show m-(m-a)=a by omega,show m+(b-m)=b by omega]⟩
 rw[hr]
 have hlen:=hp.length_eq
 have e3:i64.wrap ((m:Int)-(i:Int))=((m-i:Nat):Int):=by rw[fm (by omega) (by omega)];omega
 simp only[ae,e3]
 obtain⟨ws,hw,hq,hz⟩:=BP (l:=l) (a:=m-i) (b:=m) (n:=i) (ys:=zs) (by omega) (by omega) (by rw[tH];omega)
 rw[hw]
 refine⟨ws,rfl,hq.trans hp,fun p=>?_⟩
 rw[hz p,hg p]
 unfold LF
 repeat' split
 all_goals first|rfl|omega|(congr 1;omega)
end
end G
end Go.Proofs.YtekpafdhgkocaaaGreat
namespace Go.Proofs.YtekpafdhgkocaaaGreat
open IntKind(i64)
open G
namespace G
theorem NV{f:Int×Int->Option ((Int×Int)⊕Int)}(T:Nat->Prop)(lo hi:Nat)(hle:lo<=hi)
 (hstep:∀i j:Nat,lo<=i->i<j->j<=hi->(T ((i+j)/2)/\f ((i:Int),(j:Int))=some (.inl ((((i+j)/2+1:Nat):Int),(j:Int))))\/(¬ T ((i+j)/2)/\f ((i:Int),(j:Int))=some (.inl ((i:Int),(((i+j)/2:Nat):Int)))))
 (hend:∀i:Nat,f ((i:Int),(i:Int))=some (.inr (i:Int))) (mono:∀p q,lo<=p->p<=q->q<hi->T q->T p):
 ∃s:Nat,Iter f ((lo:Int),(hi:Int))=some (s:Int)/\lo<=s/\s<=hi/\(∀p,lo<=p->p<s->T p)/\∀p,s<=p->p<hi->¬ T p:=by
 obtain⟨r,hr,s,rfl,h⟩:=cn (f:=f)
  (fun k s=>∃i j:Nat,s=((i:Int),(j:Int))/\k=j-i/\lo<=i/\i<=j/\j<=hi/\(∀p,lo<=p->p<i->T p)/\∀p,j<=p->p<hi->¬ T p)
  (fun r=>∃s:Nat,r=(s:Int)/\lo<=s/\s<=hi/\(∀p,lo<=p->p<s->T p)/\∀p,s<=p->p<hi->¬ T p) (by
  rintro k s ⟨i,j,rfl,rfl,h1,h2,h3,h4,h5⟩
  by_cases hij:i<j
  . left
    rcases hstep i j h1 hij h3 with⟨ht,hf⟩|⟨ht,hf⟩
    . exact⟨j-((i+j)/2+1),_,hf,by omega,(i+j)/2+1,j,rfl,rfl,by omega,by omega,h3,fun p hp1 hp2=>mono p _ hp1 (by omega) (by omega) ht,h5⟩
    . exact⟨(i+j)/2-i,_,hf,by omega,i,(i+j)/2,rfl,rfl,h1,by omega,by omega,h4,fun p hp1 hp2 ht'=>ht (mono _ p (by omega) hp1 hp2 ht')⟩
  . right
    have:i=j:=by omega
    subst this
    exact⟨_,hend i,i,rfl,h1,h3,h4,h5⟩) _ _
  ⟨lo,hi,rfl,rfl,Nat.le_refl _,hle,Nat.le_refl _,fun p h1 h2=>by omega,fun p h1 h2=>by omega⟩
 exact⟨s,hr,h⟩
section
variable {l:List bO}
theorem qV{ys zs:List Int}{lo m hi:Nat}(hz:∀p,zs.getD p 0=LF (fun p=>ys.getD p 0) lo m hi p)(p:Nat):
 key l (zs.getD p 0)=if p<lo\/hi<=p then key l (ys.getD p 0)else if p<lo+(hi-m)then key l (ys.getD (p+(m-lo)) 0)else key l (ys.getD (p-(hi-m)) 0):=by
 rw[hz];unfold LF;split
 . rfl
 . split<;>rfl
theorem SC{ys zs:List Int}{lo m hi:Nat}(hp:zs.Perm ys)(hz:∀p,zs.getD p 0=LF (fun p=>ys.getD p 0) lo m hi p):Pm ys zs lo hi:=⟨hp,fun p h=>by rw[hz];unfold LF;rw[if_pos h]⟩
theorem Xx{i j:Nat}(h:i+j<=9223372036854775807):i64.wrap (jB .u64 (IntKind.u64.wrap (i64.wrap ((i:Int)+(j:Int)))) 1)=(((i+j)/2:Nat):Int):=Sf (by omega) h
theorem adE{ys:List Int}{a b:Nat}(hall:xo l ys)(hab:a+1<b)(hbl:b<=ys.length)(hb:ys.length<=UL)(hs:uA l ys (a+1) b):
 ∃zs,(∀fx,cf fx ys (a:Int) ((a+1:Nat):Int) (b:Int) l=some zs)/\Pm ys zs a b/\uA l zs a b:=by
 have hb':=hb
 rw[tH]at hb'
 obtain⟨s,hs1,h1,h2,h3,h4⟩:=NV (f:=du ys (a:Int) l) (fun p=>key l (ys.getD p 0)<key l (ys.getD a 0)) (a+1) b (by omega)
  (fun i j hi hij hj=>by
   obtain⟨c,hc,hcl⟩:=zS (l:=l) (hall.get (p:=(i+j)/2) (by omega)) (hall.get (p:=a) (by omega));unfold du;rw[if_pos (show((i:Int),(j:Int)).1<((i:Int),(j:Int)).2 by simp;omega)];simp only[Xx (show i+j<=9223372036854775807 by omega)];rw[eG (0:Int) (show(i+j)/2<ys.length by omega),eG (0:Int) (show a<ys.length by omega)];simp only[ae,hc];by_cases hlt:c<0
   . left;rw[if_pos hlt,df (n:=1125899906842625) (by omega) (by omega)];exact⟨hcl.1 hlt,rfl⟩
   . right;rw[if_neg hlt];exact⟨fun h=>hlt (hcl.2 h),rfl⟩)
  (fun i=>by unfold du;rw[if_neg (by simp)])
  (fun p q hp hpq hq ht=>by
   by_cases e:p=q
   . subst e;exact ht
   . exact Int.lt_of_le_of_lt (hs p q hp (by omega) hq) ht)
 obtain⟨r,hr,zs,rfl,hp,hz⟩:=cn (f:=ez (s:Int))
  (fun k st=>∃(i:Nat) (zs:List Int),st=((i:Int),zs)/\k=s-1-i/\a<=i/\i<=s-1/\zs.Perm ys/\∀p,zs.getD p 0=LF (fun p=>ys.getD p 0) a (a+1) (i+1) p)
  (fun r=>∃zs:List Int,r=.inr zs/\zs.Perm ys/\∀p,zs.getD p 0=LF (fun p=>ys.getD p 0) a (a+1) s p) (by
   rintro k st ⟨i,zs,rfl,rfl,hi1,hi2,hp,hz⟩;have hlen:=hp.length_eq;unfold ez;have e1:i64.wrap ((s:Int)-1)=((s-1:Nat):Int):=by rw[fm (by omega) (by omega)];omega
   rw[e1];by_cases hlt:i<s-1
   . left;have e2:i64.wrap ((i:Int)+1)=((i+1:Nat):Int):=df (n:=1125899906842625) (by omega) (by omega);rw[if_pos (show((i:Int),zs).1<((s-1:Nat):Int)by simp;omega)];obtain⟨x,hx⟩:=wD (l:=zs.set i (zs.getD (i+1) 0)) (i:=((i+1:Nat):Int)) (k:=i+1) rfl (by simp;omega);simp only[e2,eG (0:Int) (show i+1<zs.length by omega),eG (0:Int) (show i<zs.length by omega),ae,aP,hx];refine⟨s-1-(i+1),_,rfl,by omega,i+1,sw zs i (i+1),rfl,rfl,by omega,by omega,(JW (by omega) (by omega)).trans hp,fun p=>?_⟩;rw[Iq (by omega) (by omega),hz i,hz (i+1),hz p];unfold LF
     repeat' split
     all_goals first|rfl|omega|(congr 1;omega)
   . right;rw[if_neg (show ¬ ((i:Int),zs).1<((s-1:Nat):Int)by simp;omega)];exact⟨_,rfl,zs,rfl,hp,by rw[show s=i+1 by omega];exact hz⟩) _ _
  ⟨a,ys,rfl,rfl,Nat.le_refl _,by omega,.refl _,fun p=>by unfold LF;(repeat' split);all_goals (first|rfl|omega|(congr 1;omega))⟩
 refine⟨zs,fun fx=>?_,(SC hp hz).mono (Nat.le_refl _) h2,fun p q h5 h6 h7=>?_⟩
 . unfold cf
   rw[if_pos (by rw[fm (by omega) (by omega)];omega),hs1]
   simp only[ae,hr,MV]
 . rw[qV hz,qV hz]
   by_cases c1:p<a+(s-(a+1))
   . rw[if_neg (by omega),if_pos c1]
     by_cases c2:q<a+(s-(a+1))
     . rw[if_neg (by omega),if_pos c2];exact hs _ _ (by omega) (by omega) (by omega)
     . by_cases c3:s<=q
       . rw[if_pos (.inr c3)];exact hs _ _ (by omega) (by omega) h7
       . rw[if_neg (by omega),if_neg c2]
         have:=h3 (p+(a+1-a)) (by omega) (by omega)
         rw[show q-(s-(a+1))=a by omega];exact Int.le_of_lt this
   . by_cases c3:s<=p
     . rw[if_pos (.inr c3),if_pos (.inr (by omega))];exact hs _ _ (by omega) h6 h7
     . rw[if_neg (by omega),if_neg c1,if_pos (.inr (by omega)),show p-(s-(a+1))=a by omega]
       have:=h4 q (by omega) h7
       omega
theorem adF{ys:List Int}{a m:Nat}(hall:xo l ys)(ham:a+1<m)(hbl:m+1<=ys.length)(hb:ys.length<=UL)(hs:uA l ys a m):
 ∃zs,(∀fx,cf fx ys (a:Int) (m:Int) ((m+1:Nat):Int) l=some zs)/\Pm ys zs a (m+1)/\uA l zs a (m+1):=by
 have hb':=hb
 rw[tH]at hb'
 obtain⟨s,hs1,h1,h2,h3,h4⟩:=NV (f:=dv ys (m:Int) l) (fun p=>¬ key l (ys.getD m 0)<key l (ys.getD p 0)) a m (by omega)
  (fun i j hi hij hj=>by
   obtain⟨c,hc,hcl⟩:=zS (l:=l) (hall.get (p:=m) (by omega)) (hall.get (p:=(i+j)/2) (by omega));unfold dv;rw[if_pos (show((i:Int),(j:Int)).1<((i:Int),(j:Int)).2 by simp;omega)];simp only[Xx (show i+j<=9223372036854775807 by omega)];rw[eG (0:Int) (show(i+j)/2<ys.length by omega),eG (0:Int) (show m<ys.length by omega)];simp only[ae,hc];by_cases hlt:c<0
   . right;rw[if_neg (by simpa using hlt)];exact⟨fun h=>h (hcl.1 hlt),rfl⟩
   . left;rw[if_pos (by simpa using hlt),df (n:=1125899906842625) (by omega) (by omega)];exact⟨fun h=>hlt (hcl.2 h),rfl⟩)
  (fun i=>by unfold dv;rw[if_neg (by simp)])
  (fun p q hp hpq hq ht=>by
   by_cases e:p=q
   . subst e;exact ht
   . have:=hs p q hp (by omega) hq;omega)
 obtain⟨r,hr,zs,rfl,hp,hz⟩:=cn (f:=eA (s:Int))
  (fun k st=>∃(i:Nat) (zs:List Int),st=((i:Int),zs)/\k=i/\s<=i/\i<=m/\zs.Perm ys/\∀p,zs.getD p 0=LF (fun p=>ys.getD p 0) i m (m+1) p)
  (fun r=>∃zs:List Int,r=.inr zs/\zs.Perm ys/\∀p,zs.getD p 0=LF (fun p=>ys.getD p 0) s m (m+1) p) (by
   rintro k st ⟨i,zs,rfl,rfl,hi1,hi2,hp,hz⟩;have hlen:=hp.length_eq;unfold eA;by_cases hlt:s<k
   . left;have e2:i64.wrap ((k:Int)-1)=((k-1:Nat):Int):=by rw[fm (by omega) (by omega)];omega
     rw[if_pos (show((k:Int),zs).1>(s:Int)by simp;omega)];obtain⟨x,hx⟩:=wD (l:=zs.set k (zs.getD (k-1) 0)) (i:=((k-1:Nat):Int)) (k:=k-1) rfl (by simp;omega);simp only[e2,eG (0:Int) (show k-1<zs.length by omega),eG (0:Int) (show k<zs.length by omega),ae,aP,hx];refine⟨k-1,_,rfl,by omega,k-1,sw zs k (k-1),rfl,rfl,by omega,by omega,(JW (by omega) (by omega)).trans hp,fun p=>?_⟩;rw[Iq (by omega) (by omega),hz k,hz (k-1),hz p];unfold LF
     repeat' split
     all_goals first|rfl|omega|(congr 1;omega)
   . right;rw[if_neg (show ¬ ((k:Int),zs).1>(s:Int)by simp;omega)];exact⟨_,rfl,zs,rfl,hp,by rw[show s=k by omega];exact hz⟩) _ _
  ⟨m,ys,rfl,rfl,h2,Nat.le_refl _,.refl _,fun p=>by unfold LF;(repeat' split);all_goals (first|rfl|omega|(congr 1;omega))⟩
 refine⟨zs,fun fx=>?_,(SC hp hz).mono h1 (Nat.le_refl _),fun p q h5 h6 h7=>?_⟩
 . unfold cf
   rw[if_neg (by rw[fm (by omega) (by omega)];omega)]
   simp only[ae,pn]
   rw[if_pos (by rw[fm (by omega) (by omega)];omega),hs1]
   simp only[ae,hr,MV]
 . rw[qV hz,qV hz]
   by_cases c1:p<s
   . rw[if_pos (.inl c1)]
     by_cases c2:q<s
     . rw[if_pos (.inl c2)];exact hs _ _ h5 h6 (by omega)
     . rw[if_neg (by omega)]
       by_cases c3:q<s+(m+1-m)
       . rw[if_pos c3,show q+(m-s)=m by omega]
         have:=h3 p h5 c1
         omega
       . rw[if_neg c3];exact hs _ _ h5 (by omega) (by omega)
   . rw[if_neg (by omega),if_neg (show ¬ (q<s\/m+1<=q)by omega),if_neg (show ¬ q<s+(m+1-m)by omega)]
     by_cases c3:p<s+(m+1-m)
     . rw[if_pos c3,show p+(m-s)=m by omega]
       have:=h4 (q-(m+1-m)) (by omega) (by omega)
       omega
     . rw[if_neg c3];exact hs _ _ (by omega) (by omega) (by omega)
theorem adG{ys:List Int}{a m b:Nat}(hall:xo l ys)(ham:a+1<m)(hmb:m+1<b)(hbl:b<=ys.length)(hb:ys.length<=UL)(hs1:uA l ys a m)(hs2:uA l ys m b):
 ∃(ws:List Int) (s e c:Nat),(∀fx,cf fx ys (a:Int) (m:Int) (b:Int) l=
  (if a<s/\s<c then fx (ws,(a:Int),(s:Int),(c:Int),l)else some ws).bind fun v=>if c<e/\e<b then fx (v,(c:Int),(e:Int),(b:Int),l)else some v)/\
  a<c/\c<b/\a<=s/\s<=c/\c<=e/\e<=b/\Pm ys ws a b/\uA l ws a s/\uA l ws s c/\uA l ws c e/\uA l ws e b/\∀p q,a<=p->p<c->c<=q->q<b->key l (ws.getD p 0)<=key l (ws.getD q 0):=by
 have hb':=hb
 rw[tH]at hb'
 obtain⟨c,hc⟩:∃c,c=(a+b)/2:=⟨_,rfl⟩
 have eN:i64.wrap ((c:Int)+(m:Int))=((c+m:Nat):Int):=by rw[fm (by omega) (by omega)];omega
 obtain⟨lo,hi,hlo,hv3⟩:∃lo hi:Nat,((m<=c/\lo=a/\hi=m)\/(c<m/\lo=c+m-b/\hi=c))/\
  (if(m:Int)>(c:Int)then some ((i64.wrap (((c+m:Nat):Int)-(b:Int))),(c:Int))else some ((a:Int),(m:Int)))=some ((lo:Int),(hi:Int)):=by
  by_cases h:c<m
  . refine⟨c+m-b,c,.inr ⟨h,rfl,rfl⟩,?_⟩
    rw[if_pos (by omega),fm (by omega) (by omega)]
    rw[show((c+m:Nat):Int)-(b:Int)=((c+m-b:Nat):Int)by omega]
  . exact⟨a,m,.inl ⟨by omega,rfl,rfl⟩,by rw[if_neg (by omega)]⟩
 obtain⟨s,hsr,h1,h2,h3,h4⟩:=NV (f:=dw ys (a:Int) (m:Int) (b:Int) l) (fun p=>¬ key l (ys.getD (c+m-1-p) 0)<key l (ys.getD p 0)) lo hi (by omega)
  (fun i j hi1 hij hj=>by
   obtain⟨d,hd⟩:∃d,d=(i+j)/2:=⟨_,rfl⟩;obtain⟨v,hv,hvl⟩:=zS (l:=l) (hall.get (p:=c+m-1-d) (by omega)) (hall.get (p:=d) (by omega));unfold dw;rw[if_pos (show((i:Int),(j:Int)).1<((i:Int),(j:Int)).2 by simp;omega)];simp only[Xx (show i+j<=9223372036854775807 by omega),Xx (show a+b<=9223372036854775807 by omega),<- hc,<- hd,eN];have e1:i64.wrap (i64.wrap (((c+m:Nat):Int)-1)-(d:Int))=((c+m-1-d:Nat):Int):=by rw[fm (x:=((c+m:Nat):Int)-1) (by omega) (by omega),fm (by omega) (by omega)];omega
   rw[e1,eG (0:Int) (show c+m-1-d<ys.length by omega),eG (0:Int) (show d<ys.length by omega)];simp only[ae,hv];by_cases hlt:v<0
   . right;rw[if_neg (by simpa using hlt)];exact⟨fun h=>h (hvl.1 hlt),rfl⟩
   . left;rw[if_pos (by simpa using hlt),df (n:=1125899906842625) (by omega) (by omega)];exact⟨fun h=>hlt (hvl.2 h),rfl⟩)
  (fun i=>by unfold dw;rw[if_neg (by simp)])
  (fun p q hp hpq hq ht=>by
   by_cases e:p=q
   . subst e;exact ht
   . have k1:=hs1 p q (by omega) (by omega) (by omega);have k2:=hs2 (c+m-1-q) (c+m-1-p) (by omega) (by omega) (by omega);omega)
 obtain⟨e,he⟩:∃e,e=c+m-s:=⟨_,rfl⟩
 have eE:i64.wrap (((c+m:Nat):Int)-(s:Int))=(e:Int):=by rw[fm (by omega) (by omega)];omega
 obtain⟨ws,hw,hp,hz⟩:∃ws:List Int,((if(s:Int)<(m:Int)then some (decide ((m:Int)<(e:Int)))else some false).bind fun v5=>
  if v5=true then(dm ys (s:Int) (m:Int) (e:Int) l).bind fun y3=>some y3 else some ys)=some ws/\ws.Perm ys/\∀p,ws.getD p 0=LF (fun p=>ys.getD p 0) s m e p:=by
  by_cases hsm:s<m
  . rw[if_pos (by omega)]
    by_cases hme:m<e
    . obtain⟨ws,h5,h6,h7⟩:=VN (l:=l) (a:=s) (m:=m) (b:=e) (ys:=ys) hsm hme (by omega) hb
      simp only[ae,show((m:Int)<(e:Int))=True by simp;omega,decide_true,if_true,h5]
      exact⟨ws,rfl,h6,h7⟩
    . simp only[ae,show((m:Int)<(e:Int))=False by simp;omega,decide_false,aM,if_false]
      refine⟨ys,rfl,.refl _,fun p=>?_⟩
      unfold LF
      repeat' split
      all_goals first|rfl|omega|(congr 1;omega)
  . rw[if_neg (by omega)]
    refine⟨ys,rfl,.refl _,fun p=>?_⟩
    unfold LF
    repeat' split
    all_goals first|rfl|omega|(congr 1;omega)
 refine⟨ws,s,e,c,fun fx=>?_,by omega,by omega,by omega,by omega,by omega,by omega,(SC hp hz).mono (by omega) (by omega),?_,?_,?_,?_,?_⟩
 . unfold cf
   rw[if_neg (by rw[fm (by omega) (by omega)];omega)]
   simp only[ae,pn]
   rw[if_neg (by rw[fm (by omega) (by omega)];omega)]
   simp only[ae,pn,Xx (show a+b<=9223372036854775807 by omega),<- hc,eN,hv3,hsr,eE]
   rw[<- aH,hw]
   simp only[ae]
   have k1:(if(a:Int)<(s:Int)then some (decide ((s:Int)<(c:Int)))else some false)=some (decide (a<s/\s<c)):=by
    by_cases h5:a<s
    . rw[if_pos (by omega)];congr 1;simp only[bp];omega
    . rw[if_neg (by omega)];congr 1;simp;omega
   have k2:(if(c:Int)<(e:Int)then some (decide ((e:Int)<(b:Int)))else some false)=some (decide (c<e/\e<b)):=by
    by_cases h5:c<e
    . rw[if_pos (by omega)];congr 1;simp only[bp];omega
    . rw[if_neg (by omega)];congr 1;simp;omega
   simp only[k1,k2,ae,ax,NU]
 . exact fun p q h5 h6 h7=>by rw[qV hz,qV hz,if_pos (.inl (by omega)),if_pos (.inl h7)];exact hs1 p q h5 h6 (by omega)
 . exact fun p q h5 h6 h7=>by
    rw[qV hz,qV hz,if_neg (by omega),if_neg (show ¬ (q<s\/e<=q)by omega),if_pos (by omega),if_pos (by omega)];exact hs2 _ _ (by omega) (by omega) (by omega)
 . exact fun p q h5 h6 h7=>by
    rw[qV hz,qV hz,if_neg (by omega),if_neg (show ¬ (q<s\/e<=q)by omega),if_neg (by omega),if_neg (by omega)];exact hs1 _ _ (by omega) (by omega) (by omega)
 . exact fun p q h5 h6 h7=>by rw[qV hz,qV hz,if_pos (.inr h5),if_pos (.inr (by omega))];exact hs2 p q (by omega) h6 h7
 . intro p q h5 h6 h7 h8
   rw[qV hz,qV hz]
   by_cases c1:p<s
   . rw[if_pos (.inl c1)]
     by_cases c2:q<e
     . rw[if_neg (by omega),if_neg (by omega)];exact hs1 _ _ h5 (by omega) (by omega)
     . rw[if_pos (.inr (by omega))]
       have k1:=h3 (s-1) (by omega) (by omega)
       rw[show c+m-1-(s-1)=e by omega]at k1
       have k2:key l (ys.getD p 0)<=key l (ys.getD (s-1) 0):=by
        by_cases ee:p=s-1
        . rw[ee];exact Int.le_refl _
        . exact hs1 _ _ h5 (by omega) (by omega)
       have k3:key l (ys.getD e 0)<=key l (ys.getD q 0):=by
        by_cases ee:e=q
        . rw[ee];exact Int.le_refl _
        . exact hs2 _ _ (by omega) (by omega) h8
       omega
   . rw[if_neg (by omega),if_pos (by omega)]
     by_cases c2:q<e
     . rw[if_neg (by omega),if_neg (by omega)]
       have k1:=h4 s (Nat.le_refl _) (by omega)
       rw[show c+m-1-s=e-1 by omega]at k1
       have k2:key l (ys.getD (p+(m-s)) 0)<=key l (ys.getD (e-1) 0):=by
        by_cases ee:p+(m-s)=e-1
        . rw[ee];exact Int.le_refl _
        . exact hs2 _ _ (by omega) (by omega) (by omega)
       have k3:key l (ys.getD s 0)<=key l (ys.getD (q-(e-m)) 0):=by
        by_cases ee:s=q-(e-m)
        . rw[<- ee];exact Int.le_refl _
        . exact hs1 _ _ (by omega) (by omega) (by omega)
       omega
     . rw[if_pos (.inr (by omega))];exact hs2 _ _ (by omega) (by omega) h8
theorem uA.join{zs:List Int}{a c b:Nat}(h1:uA l zs a c)(h2:uA l zs c b)(h3:∀p q,a<=p->p<c->c<=q->q<b->key l (zs.getD p 0)<=key l (zs.getD q 0)):uA l zs a b:=fun p q h4 h5 h6=>by
 by_cases hq:q<c
 . exact h1 p q h4 h5 hq
 . by_cases hp:p<c
   . exact h3 p q h4 hp (by omega) h6
   . exact h2 p q (by omega) h5 h6
theorem Pm.any{xs zs:List Int}{lo hi:Nat}(h:Pm xs zs lo hi)(hl:hi<=xs.length){p:Nat}(h1:lo<=p)(h2:p<hi):∃q,lo<=q/\q<hi/\zs.getD p 0=xs.getD q 0:=by
 have hlen:=h.len;have split:∀ws:List Int,ws.length=xs.length->ws=ws.take lo++((ws.drop lo).take (hi-lo)++ws.drop hi):=fun ws hw=>by
  have:=List.take_append_drop (hi-lo) (ws.drop lo);rw[List.drop_drop,show lo+(hi-lo)=hi by omega]at this;rw[this,List.take_append_drop]
 have e1:zs.take lo=xs.take lo:=List.ext_getElem? fun i=>by
  simp only[List.getElem?_take];split
  . have:=h.out i (.inl (by assumption));simp only[List.getD_eq_getElem?_getD]at this;rw[List.getElem?_eq_getElem (by omega),List.getElem?_eq_getElem (by omega)]at this ⊢;simpa using this
  . rfl
 have e2:zs.drop hi=xs.drop hi:=List.ext_getElem? fun i=>by
  simp only[List.getElem?_drop];have:=h.out (hi+i) (.inr (by omega));simp only[List.getD_eq_getElem?_getD]at this;by_cases hi':hi+i<xs.length
  . rw[List.getElem?_eq_getElem (by omega),List.getElem?_eq_getElem hi']at this ⊢;simpa using this
  . rw[List.getElem?_eq_none (by omega),List.getElem?_eq_none (by omega)]
 have hp:=h.perm;rw[split zs hlen,split xs rfl,e1,e2]at hp;have hm:=(List.perm_append_right_iff _).1 ((List.perm_append_left_iff _).1 hp);have hmem:zs.getD p 0∈(zs.drop lo).take (hi-lo):=by
  have:zs.getD p 0=zs[p]:=by simp[show p<zs.length by omega]
  rw[this];refine List.mem_iff_getElem?.2 ⟨p-lo,?_⟩;rw[List.getElem?_take,if_pos (by omega),List.getElem?_drop,show lo+(p-lo)=p by omega,List.getElem?_eq_getElem (by omega)]
 obtain⟨i,hi'⟩:=List.mem_iff_getElem?.1 (hm.mem_iff.1 hmem);rw[List.getElem?_take]at hi';split at hi'
 . rw[List.getElem?_drop]at hi';refine⟨lo+i,by omega,by omega,?_⟩;rw[List.getD_eq_getElem?_getD (l:=xs),hi'];rfl
 . cases hi'
theorem YG{ys:List Int}{a m b:Nat}(hall:xo l ys)(ham:a<m)(hmb:m<b)(hbl:b<=ys.length)(hb:ys.length<=UL)(hs1:uA l ys a m)(hs2:uA l ys m b):
 ∃zs,db ys (a:Int) (m:Int) (b:Int) l=some zs/\Pm ys zs a b/\uA l zs a b:=by
 unfold db
 obtain⟨r,hr,a',b',ha',hb2,hp,hs⟩:=Mz (F:=cY)
  (fun k x=>∃(ys:List Int) (a m b:Nat),x=(ys,(a:Int),(m:Int),(b:Int),l)/\k=b-a/\a<m/\m<b/\b<=ys.length/\ys.length<=UL/\xo l ys/\uA l ys a m/\uA l ys m b)
  (fun x r=>∃a b:Nat,x.2.1=(a:Int)/\x.2.2.2.1=(b:Int)/\Pm x.1 r a b/\uA l r a b) (by
  rintro k x ⟨ys,a,m,b,rfl,rfl,ham,hmb,hbl,hb,hall,hs1,hs2⟩ f g hfg
  unfold cY
  by_cases c1:m=a+1
  . subst c1
    obtain⟨zs,h1,h2,h3⟩:=adE hall hmb hbl hb hs2
    exact⟨zs,h1 f,h1 g,a,b,rfl,rfl,h2,h3⟩
  . by_cases c2:b=m+1
    . subst c2
      obtain⟨zs,h1,h2,h3⟩:=adF hall (by omega) hbl hb hs1
      exact⟨zs,h1 f,h1 g,a,m+1,rfl,rfl,h2,h3⟩
    . obtain⟨ws,s,e,c,h1,k1,k2,k3,k4,k5,k6,hp,t1,t2,t3,t4,hx⟩:=adG hall (by omega) (by omega) hbl hb hs1 hs2
      have hlen:=hp.len
      simp only[h1]
      obtain⟨us,hf,hg,hpu,hsu⟩:∃us,(if a<s/\s<c then f (ws,(a:Int),(s:Int),(c:Int),l)else some ws)=some us/\(if a<s/\s<c then g (ws,(a:Int),(s:Int),(c:Int),l)else some ws)=some us/\Pm ws us a c/\uA l us a c:=by
       by_cases h2:a<s/\s<c
       . obtain⟨r,hr1,hr2,a',b',q1,q2,q3,q4⟩:=hfg (c-a) (ws,(a:Int),(s:Int),(c:Int),l) (by omega) ⟨ws,a,s,c,rfl,rfl,h2.1,h2.2,by omega,by omega,hp.all hall,t1,t2⟩;simp only at q1 q2 q3;have e1:a'=a:=by omega
         have e2:b'=c:=by omega
         subst e1 e2;exact⟨r,by rw[if_pos h2];exact hr1,by rw[if_pos h2];exact hr2,q3,q4⟩
       . refine⟨ws,by rw[if_neg h2],by rw[if_neg h2],Pm.refl _ _ _,?_⟩;by_cases h3:s=a
         . rw[h3]at t2;exact t2
         . rw[show c=s by omega];exact t1
      have hlu:=hpu.len
      obtain⟨vs,hf2,hg2,hpv,hsv⟩:∃vs,(if c<e/\e<b then f (us,(c:Int),(e:Int),(b:Int),l)else some us)=some vs/\(if c<e/\e<b then g (us,(c:Int),(e:Int),(b:Int),l)else some us)=some vs/\Pm us vs c b/\uA l vs c b:=by
       by_cases h2:c<e/\e<b
       . obtain⟨r,hr1,hr2,a',b',q1,q2,q3,q4⟩:=hfg (b-c) (us,(c:Int),(e:Int),(b:Int),l) (by omega) ⟨us,c,e,b,rfl,rfl,h2.1,h2.2,by omega,by omega,hpu.all (hp.all hall),t3.uQ hpu (.inr (Nat.le_refl _)),t4.uQ hpu (.inr (by omega))⟩;simp only at q1 q2 q3;have e1:a'=c:=by omega
         have e2:b'=b:=by omega
         subst e1 e2;exact⟨r,by rw[if_pos h2];exact hr1,by rw[if_pos h2];exact hr2,q3,q4⟩
       . refine⟨us,by rw[if_neg h2],by rw[if_neg h2],Pm.refl _ _ _,?_⟩;by_cases h3:e=c
         . rw[h3]at t4;exact t4.uQ hpu (.inr (Nat.le_refl _))
         . rw[show b=e by omega];exact t3.uQ hpu (.inr (Nat.le_refl _))
      refine⟨vs,by rw[hf];exact hf2,by rw[hg];exact hg2,a,b,rfl,rfl,(hp.trans (hpu.mono (Nat.le_refl _) (by omega))).trans (hpv.mono (by omega) (Nat.le_refl _)),(hsu.uQ hpv (.inl (Nat.le_refl _))).join hsv fun p q h2 h3 h4 h5=>?_⟩
      rw[hpv.out p (.inl h3)]
      obtain⟨p',hp1,hp2,e1⟩:=hpu.any (by omega) h2 h3
      obtain⟨q',hq1,hq2,e2⟩:=hpv.any (by omega) h4 h5
      rw[e1,e2,hpu.out q' (.inr hq1)]
      exact hx p' q' hp1 hp2 hq1 hq2) (k:=b-a) (x:=(ys,(a:Int),(m:Int),(b:Int),l)) ⟨ys,a,m,b,rfl,rfl,ham,hmb,hbl,hb,hall,hs1,hs2⟩
 simp only at ha' hb2 hp
 have e1:a'=a:=by omega
 have e2:b'=b:=by omega
 subst e1 e2
 exact⟨r,hr,hp,hs⟩
end
end G
end Go.Proofs.YtekpafdhgkocaaaGreat
namespace Go.Proofs.YtekpafdhgkocaaaGreat
open IntKind(i64)
open G
namespace G
section
variable {l:List bO}
def Pk(l:List bO)(zs:List Int)(s lo n:Nat):Prop:=∀k,uA l zs (lo+k*s) (min (lo+k*s+s) n)
theorem Pk.next{zs:List Int}{s lo n:Nat}(h:Pk l zs s lo n)(j:Nat):Pk l zs s (lo+j*s) n:=fun k=>by
 have:=h (j+k);rw[bc]at this;rwa[show lo+j*s+k*s=lo+(j*s+k*s)by omega]
theorem Pk.uQ{xs ys:List Int}{s lo n a b:Nat}(h:Pk l xs s lo n)(hp:Pm xs ys a b)(hb:b<=lo):Pk l ys s lo n:=fun k=>(h k).uQ hp (.inr (by omega))
theorem Pk.first{zs:List Int}{s lo n:Nat}(h:Pk l zs s lo n):uA l zs lo (min (lo+s) n):=by have:=h 0;simpa using this
theorem Pk.second{zs:List Int}{s lo n:Nat}(h:Pk l zs s lo n):uA l zs (lo+s) (min (lo+s+s) n):=by have:=h 1;simpa using this
def Mg(l:List bO)(zs:List Int)(s hi:Nat):Prop:=∀k,k*s+s<=hi->uA l zs (k*s) (k*s+s)
theorem Mg.uQ{xs ys:List Int}{s hi a b:Nat}(h:Mg l xs s hi)(hp:Pm xs ys a b)(ha:hi<=a):Mg l ys s hi:=fun k hk=>(h k hk).uQ hp (.inl (by omega))
theorem Qm{n s:Nat}{ys:List Int}{w:Int×List Int}(hw:w.1=(s:Int))(hall:xo l ys)(hn:n=ys.length)(hb:ys.length<=UL)(hs:0<s)(hsn:s<n)(hB:Pk l ys s 0 n):
 ∃(a:Nat) (zs:List Int),Iter (dG (n:Int) l w) (0,i64.wrap (2*w.1),ys)=some ((a:Int),zs)/\Pm ys zs 0 n/\(∃t,a=t*(2*s))/\a<=n/\n<a+2*s/\Mg l zs (2*s) a/\Pk l zs s a n:=by
 have hb':=hb
 rw[tH]at hb'
 have e2:i64.wrap (2*w.1)=((2*s:Nat):Int):=by rw[hw,fm (by omega) (by omega)];omega
 obtain⟨r,hr,a,zs,rfl,h⟩:=cn (f:=dG (n:Int) l w)
  (fun k st=>∃(a:Nat) (zs:List Int),st=((a:Int),((a+2*s:Nat):Int),zs)/\k=n-a/\Pm ys zs 0 n/\(∃t,a=t*(2*s))/\a<=n/\Mg l zs (2*s) a/\Pk l zs s a n)
  (fun r=>∃(a:Nat) (zs:List Int),r=((a:Int),zs)/\Pm ys zs 0 n/\(∃t,a=t*(2*s))/\a<=n/\n<a+2*s/\Mg l zs (2*s) a/\Pk l zs s a n) (by
   rintro k st ⟨a,zs,rfl,rfl,hp,⟨t,ht⟩,ha,hu,hbk⟩;have hlen:=hp.len;unfold dG;by_cases hlt:a+2*s<=n
   . left;rw[if_pos (show((a:Int),((a+2*s:Nat):Int),zs).2.1<=(n:Int)by simp;omega)];have e3:i64.wrap ((a:Int)+w.1)=((a+s:Nat):Int):=by rw[hw,fm (by omega) (by omega)];omega
     have e4:i64.wrap (((a+2*s:Nat):Int)+i64.wrap (2*w.1))=((a+2*s+2*s:Nat):Int):=by rw[e2,fm (by omega) (by omega)];omega
     have f1:=hbk.first;have f2:=hbk.second;rw[show min (a+s) n=a+s by omega]at f1;rw[show min (a+s+s) n=a+2*s by omega]at f2;obtain⟨ws,h1,h2,h3⟩:=YG (l:=l) (ys:=zs) (a:=a) (m:=a+s) (b:=a+2*s) (hp.all hall) (by omega) (by omega) (by omega) (by omega) f1 f2;simp only[e3,h1,ae,e4];refine⟨n-(a+2*s),_,rfl,by omega,a+2*s,ws,rfl,rfl,hp.trans (h2.mono (Nat.zero_le _) hlt),⟨t+1,by rw[bc];omega⟩,hlt,fun k hk=>?_,?_⟩
     . by_cases hk2:k*(2*s)+2*s<=a
       . exact(hu.uQ h2 (Nat.le_refl _)) k hk2
       . have:k=t:=by
          rcases Nat.lt_trichotomy k t with h|h|h
          . have h':=Nat.mul_le_mul_right (2*s) (show k+1<=t from h);rw[bc]at h';omega
          . exact h
          . have h':=Nat.mul_le_mul_right (2*s) (show t+1<=k from h);rw[bc]at h';omega
         subst this;rw[<- ht];exact h3
     . have:=(hbk.next 2).uQ h2 (by omega);exact this
   . right;rw[if_neg (show ¬ ((a:Int),((a+2*s:Nat):Int),zs).2.1<=(n:Int)by simp;omega)];exact⟨_,rfl,a,zs,rfl,hp,⟨t,ht⟩,ha,by omega,hu,hbk⟩) n (0,i64.wrap (2*w.1),ys)
  ⟨0,ys,by rw[e2];simp,rfl,Pm.refl _ _ _,⟨0,by simp⟩,Nat.zero_le _,fun k hk=>by omega,hB⟩
 exact⟨a,zs,hr,h⟩
theorem RD{zs:List Int}{s a n:Nat}(hs:0<s)(ht:∃t,a=t*s)(hu:Mg l zs s a)(hl:uA l zs a (min (a+s) n))(hn:n<=a+s):Pk l zs s 0 n:=by
 obtain⟨t,rfl⟩:=ht;intro k;rw[aZ];by_cases h1:k<t
 . have:(k+1)*s<=t*s:=Nat.mul_le_mul_right s h1;rw[bc]at this;have h2:=hu k (by omega);exact fun p q h3 h4 h5=>h2 p q h3 h4 (by omega)
 . by_cases h2:k=t
   . subst h2;exact hl
   . have:(t+1)*s<=k*s:=Nat.mul_le_mul_right s (by omega);rw[bc]at this;exact fun p q h3 h4 h5=>by omega
theorem Oq{n:Nat}{ys:List Int}(hall:xo l ys)(hn:n=ys.length)(hb:ys.length<=UL):
 ∃(a:Nat) (zs:List Int),Iter (dF (n:Int) l) (0,20,ys)=some ((a:Int),zs)/\Pm ys zs 0 n/\(∃t,a=t*20)/\a<=n/\n<a+20/\Mg l zs 20 a:=by
 have hb':=hb
 rw[tH]at hb'
 obtain⟨r,hr,a,zs,rfl,h⟩:=cn (f:=dF (n:Int) l)
  (fun k st=>∃(a:Nat) (zs:List Int),st=((a:Int),((a+20:Nat):Int),zs)/\k=n-a/\Pm ys zs 0 n/\(∃t,a=t*20)/\a<=n/\Mg l zs 20 a)
  (fun r=>∃(a:Nat) (zs:List Int),r=((a:Int),zs)/\Pm ys zs 0 n/\(∃t,a=t*20)/\a<=n/\n<a+20/\Mg l zs 20 a) (by
   rintro k st ⟨a,zs,rfl,rfl,hp,⟨t,ht⟩,ha,hu⟩;have hlen:=hp.len;unfold dF;by_cases hlt:a+20<=n
   . left;rw[if_pos (show((a:Int),((a+20:Nat):Int),zs).2.1<=(n:Int)by simp;omega)];have e4:i64.wrap (((a+20:Nat):Int)+20)=((a+20+20:Nat):Int):=by rw[fm (by omega) (by omega)];omega
     obtain⟨ws,h1,h2,h3⟩:=F7 (l:=l) (ys:=zs) (a:=a) (b:=a+20) (hp.all hall) (by omega) (by omega) (by omega);simp only[h1,ae,e4];refine⟨n-(a+20),_,rfl,by omega,a+20,ws,rfl,rfl,hp.trans (h2.mono (Nat.zero_le _) hlt),⟨t+1,by omega⟩,hlt,fun k hk=>?_⟩;by_cases hk2:k*20+20<=a
     . exact(hu.uQ h2 (Nat.le_refl _)) k hk2
     . have:k=t:=by omega
       subst this;rw[<- ht];exact h3
   . right;rw[if_neg (show ¬ ((a:Int),((a+20:Nat):Int),zs).2.1<=(n:Int)by simp;omega)];exact⟨_,rfl,a,zs,rfl,hp,⟨t,ht⟩,ha,by omega,hu⟩) n (0,20,ys)
  ⟨0,ys,rfl,rfl,Pm.refl _ _ _,⟨0,rfl⟩,Nat.zero_le _,fun k hk=>by omega⟩
 exact⟨a,zs,hr,h⟩
theorem VZ{ys:List Int}(hall:xo l ys)(hb:ys.length<=UL):∃zs,dr ys l=some zs/\zs.Perm ys/\uA l zs 0 ys.length:=by
 have hb':=hb;rw[tH]at hb';obtain⟨n,hn⟩:∃n,n=ys.length:=⟨_,rfl⟩;unfold dr fg;rw[<- hn];obtain⟨a,zs,h1,hp,ht,ha1,ha2,hu⟩:=Oq hall hn hb;have hlen:=hp.len;obtain⟨ws,h2,hp2,hs2⟩:=F7 (l:=l) (ys:=zs) (a:=a) (b:=n) (hp.all hall) ha1 (by omega) (by omega);have hB:Pk l ws 20 0 n:=RD (by omega) ht (hu.uQ hp2 (Nat.le_refl _)) (by rw[show min (a+20) n=n by omega];exact hs2) (by omega);rw[h1];simp only[ae,h2,NU];obtain⟨r,hr,h3,h4⟩:=cn (f:=eK (n:Int) l)
  (fun k st=>∃(s:Nat) (zs:List Int),st=((s:Int),zs)/\k=n+20-s/\20<=s/\s<=2*n+20/\Pm ys zs 0 n/\Pk l zs s 0 n)
  (fun zs=>Pm ys zs 0 n/\uA l zs 0 n) (by
   rintro k st ⟨s,zs,rfl,rfl,h5,h6,hp,hB⟩;have hlen:=hp.len;unfold eK;by_cases hlt:s<n
   . left;rw[if_pos (show((s:Int),zs).1<(n:Int)by simp;omega)];obtain⟨a,us,q1,q2,⟨t,q3⟩,q4,q5,q6,q7⟩:=Qm (l:=l) (n:=n) (s:=s) (ys:=zs) (w:=((s:Int),zs)) rfl (hp.all hall) (by omega) (by omega) (by omega) hlt hB;have hl2:=q2.len;have e1:i64.wrap ((a:Int)+(s:Int))=((a+s:Nat):Int):=by rw[fm (by omega) (by omega)];omega
     have e2:i64.wrap ((s:Int)*2)=((2*s:Nat):Int):=by rw[fm (by omega) (by omega)];omega
     have f1:=q7.first;have f2:=q7.second;simp only[q1,ae,e1,e2];by_cases hm:a+s<n
     . rw[if_pos (by omega)];rw[show min (a+s) n=a+s by omega]at f1;rw[show min (a+s+s) n=n by omega]at f2;obtain⟨vs,g1,g2,g3⟩:=YG (l:=l) (ys:=us) (a:=a) (m:=a+s) (b:=n) (q2.all (hp.all hall)) (by omega) hm (by omega) (by omega) f1 f2;simp only[g1,ae];exact⟨n+20-2*s,_,rfl,by omega,2*s,vs,rfl,rfl,by omega,by omega,(hp.trans q2).trans (g2.mono (Nat.zero_le _) (Nat.le_refl _)),RD (by omega) ⟨t,q3⟩ (q6.uQ g2 (Nat.le_refl _)) (by rw[show min (a+2*s) n=n by omega];exact g3) (by omega)⟩
     . rw[if_neg (by omega)];rw[show min (a+s) n=n by omega]at f1;exact⟨n+20-2*s,_,rfl,by omega,2*s,us,rfl,rfl,by omega,by omega,hp.trans q2,RD (by omega) ⟨t,q3⟩ q6 (by rw[show min (a+2*s) n=n by omega];exact f1) (by omega)⟩
   . right;rw[if_neg (show ¬ ((s:Int),zs).1<(n:Int)by simp;omega)];have:=hB.first;rw[show min (0+s) n=n by omega]at this;exact⟨_,rfl,hp,this⟩) n (20,ws)
  ⟨20,ws,rfl,by omega,by omega,by omega,hp.trans (hp2.mono (Nat.zero_le _) (Nat.le_refl _)),hB⟩
 exact⟨r,hr,h3.perm,h4⟩
def JM(n:Nat):List Int:=(List.range n).map fun k:Nat=>(k:Int)
theorem TJ(l:List bO):xo l (JM l.length):=fun x hx=>by
 obtain⟨k,hk,rfl⟩:=List.mem_map.1 hx;have:=List.mem_range.1 hk;exact⟨by omega,by omega⟩
theorem ND(h:l.length<=17592186044416):∃ord,pZ l=some (l,ord)/\ord.Perm (JM l.length)/\uA l ord 0 l.length:=by
 unfold pZ;rw[mR (by omega)];have h1:Iter (tw l) (0,List.replicate l.length 0)=some (JM l.length):=by
  refine cu l.length (fun k=>((k:Int),(JM k)++List.replicate (l.length-k) 0)) _ (fun k hk=>?_) ?_ (by simp[JM])
  . unfold tw;rw[if_pos (by simp;omega)];obtain⟨x,hx⟩:=wD (l:=JM k++List.replicate (l.length-k) (0:Int)) (i:=(k:Int)) (k:=k) rfl (by simp[JM];omega);simp only[hx,ae,df hk (by omega),aP];congr 3;rw[show JM (k+1)=JM k++[(k:Int)]by simp[JM,List.range_succ],List.set_append_right _ _ (by simp[JM])];rw[show l.length-k=(l.length-(k+1))+1 by omega,List.replicate_succ];simp[JM]
  . unfold tw;rw[if_neg (by simp)];simp
 rw[aP,h1];simp only[ae];have hl:(JM l.length).length=l.length:=by simp[JM]
 obtain⟨zs,h2,h3,h4⟩:=VZ (l:=l) (TJ l) (by rw[hl,tH];omega);have hz:=h3.length_eq;rw[h2];simp only[ae];exact⟨zs,rfl,h3,by rw[hl]at h4;exact h4⟩
end
end G
end Go.Proofs.YtekpafdhgkocaaaGreat
namespace Go.Proofs.YtekpafdhgkocaaaGreat
open IntKind(i64)
open G
namespace G
def Ra(l:List bO)(o:Int):Prop:=∃c∈l,c.to<=o/\o<ed c
def B6(l:List bO):Prop:=∃i j,i<l.length/\j<l.length/\i≠j/\ov (cat l i) (cat l j)=true
structure Tc(l:List bO)(t:Int):Prop where
 pos:0<=t
 cov:∀o,0<=o->o<t->Ra l o
 not:¬ Ra l t
 adT:t=0\/∃c∈l,t=ed c
theorem xx{l:List bO}{i:Nat}(h:i<l.length):cat l i∈l:=by
 have:cat l i=l[i]:=by simp[cat,h]
 rw[this];exact az h
theorem JQ{l:List bO}{c:bO}(h:c∈l):∃i,i<l.length/\cat l i=c:=by
 obtain⟨i,hi,e⟩:=List.getElem_of_mem h;exact⟨i,hi,by rw[bW hi,e]⟩
structure Ord(l:List bO)(ord:List Int):Prop where
 perm:ord.Perm (JM l.length)
 srt:uA l ord 0 l.length
theorem XZ(l:List bO):∃ord,Ord l ord:=by
 refine⟨(JM l.length).mergeSort fun x y=>decide (key l x<=key l y),List.mergeSort_perm _ _,fun p q _ hpq hq=>?_⟩;have h:=List.pairwise_mergeSort (le:=fun x y=>decide (key l x<=key l y)) (fun a b c h1 h2=>aG (Int.le_trans (aF h1) (aF h2))) (fun a b=>by
  rw[Bool.or_eq_true,ax,ax];exact Int.le_total _ _) (JM l.length)
 have hl:((JM l.length).mergeSort fun x y=>decide (key l x<=key l y)).length=l.length:=by rw[(List.mergeSort_perm _ _).length_eq];simp[JM]
 have:=aF (aQ.1 h p q (by omega) (by omega) hpq);rw[List.getD_eq_getElem?_getD,List.getD_eq_getElem?_getD,List.getElem?_eq_getElem (by omega),List.getElem?_eq_getElem (by omega)];exact this
section
variable {l:List bO}{ord:List Int}
theorem Ord.len(h:Ord l ord):ord.length=l.length:=by rw[h.perm.length_eq];simp[JM]
def xV(l:List bO)(ord:List Int)(k:Nat):bO:=cat l (ord.getD k 0).toNat
theorem Ord.ix(h:Ord l ord){k:Nat}(hk:k<l.length):Ix l (ord.getD k 0):=by
 have hl:=h.len;refine xo.get (l:=l) (fun x hx=>?_) (by omega);exact TJ l x (h.perm.mem_iff.1 hx)
theorem Ord.le(h:Ord l ord){p q:Nat}(hpq:p<=q)(hq:q<l.length):(xV l ord p).to<=(xV l ord q).to:=by
 by_cases e:p=q
 . subst e;exact Int.le_refl _
 . exact h.srt p q (Nat.zero_le _) (by omega) hq
theorem Ord.inj(h:Ord l ord){p q:Nat}(hp:p<l.length)(hq:q<l.length)(e:(ord.getD p 0).toNat=(ord.getD q 0).toNat):p=q:=by
 have hl:=h.len;have hn:ord.Nodup:=by
  rw[h.perm.nodup_iff];show List.Pairwise _ _;unfold JM;rw[List.pairwise_map];exact List.Pairwise.imp (fun h k=>h (by omega)) (List.nodup_range (n:=l.length))
 have i1:=(h.ix hp).1;have i2:=(h.ix hq).1;have e':ord.getD p 0=ord.getD q 0:=by omega
 have e1:ord.getD p 0=ord[p]:=by simp[show p<ord.length by omega]
 have e2:ord.getD q 0=ord[q]:=by simp[show q<ord.length by omega]
 rw[e1,e2]at e';have hpw:=aQ.1 (show List.Pairwise (· ≠ ·) ord from hn);rcases Nat.lt_trichotomy p q with k|k|k
 . exact absurd e' (hpw p q _ _ k)
 . exact k
 . exact absurd e'.symm (hpw q p _ _ k)
theorem Ord.acz(h:Ord l ord){i:Nat}(hi:i<l.length):∃k,k<l.length/\(ord.getD k 0).toNat=i:=by
 have hl:=h.len;have hm:(i:Int)∈ord:=h.perm.mem_iff.2 (List.mem_map.2 ⟨i,List.mem_range.2 hi,rfl⟩);obtain⟨k,hk,e⟩:=List.getElem_of_mem hm;exact⟨k,by omega,by simp[hk,e]⟩
theorem Ord.mem(h:Ord l ord){k:Nat}(hk:k<l.length):xV l ord k∈l:=by
 have:=h.ix hk;obtain⟨h1,h2⟩:=this;exact xx (by omega)
theorem Ord.any(h:Ord l ord){c:bO}(hc:c∈l):∃k,k<l.length/\xV l ord k=c:=by
 obtain⟨i,hi,e⟩:=JQ hc;obtain⟨k,hk,e'⟩:=h.acz hi;exact⟨k,hk,by unfold xV;rw[e',e]⟩
structure Pl(l:List bO)(ord:List Int)(k:Nat)(e:Int):Prop where
 zero:k=0->e=0
 last:∀j,k=j+1->e=ed (xV l ord j)
 apart:∀p q,p<q->q<k->ed (xV l ord p)<=(xV l ord q).to
theorem Pl.le{k:Nat}{e:Int}(h:Pl l ord k e)(hg:∀c∈l,0<=c.to/\1<=eD c)(ho:Ord l ord)(hk:k<=l.length){p:Nat}(hp:p<k):ed (xV l ord p)<=e:=by
 obtain⟨j,rfl⟩:∃j,k=j+1:=⟨k-1,by omega⟩;rw[h.last j rfl];by_cases e':p=j
 . subst e';exact Int.le_refl _
 . have h1:=h.apart p j (by omega) (by omega);have h2:=hg _ (ho.mem (k:=j) (by omega));unfold ed at *; omega
def Gap(l:List bO)(ord:List Int)(k:Nat)(e g:Int):Prop:=
 0<=e/\((g= -1/\∀o,0<=o->o<e->∃p,p<k/\(xV l ord p).to<=o/\o<ed (xV l ord p))\/
 (0<=g/\g<e/\(∀o,0<=o->o<g->∃p,p<k/\(xV l ord p).to<=o/\o<ed (xV l ord p))/\(∀p,p<k->¬ ((xV l ord p).to<=g/\g<ed (xV l ord p)))/\(g=0\/∃p,p<k/\g=ed (xV l ord p))))
theorem YT(hg:∀c∈l,0<=c.to/\1<=eD c/\ed c<=4611686018427387903)(hn:l.length<=17592186044416):
 (B6 l/\wB l=some (0,true))\/(¬ B6 l/\∃t,wB l=some (t,false)/\Tc l t):=by
 obtain⟨ord,hs,hp,hsr⟩:=ND hn
 have ho:Ord l ord:=⟨hp,hsr⟩
 have hlen:=ho.len
 unfold wB mU
 rw[hs]
 simp only[ae]
 obtain⟨r,hr,hq⟩:=cn (f:=kV ord l)
  (fun n st=>∃(k:Nat) (e g:Int),st=((k:Int),0,false,e,g)/\n=l.length-k/\k<=l.length/\Pl l ord k e/\Gap l ord k e g)
  (fun r=>(∃e g,r=.inl (0,true,e,g)/\B6 l)\/∃e g,r=.inr (0,false,e,g)/\Pl l ord l.length e/\Gap l ord l.length e g) (by
   rintro n st ⟨k,e,g,rfl,rfl,hk,hc,hgap⟩;unfold kV ym;by_cases hlt:k<l.length
   . have hix:=ho.ix hlt;have hm:=ho.mem hlt;have hgo:=hg _ hm;rw[if_pos (show((k:Int),(0:Int),false,e,g).1<((ord.length:Nat):Int)by simp;omega)];simp only[eG (0:Int) (show k<ord.length by omega),ae];rw[xY (k:=(ord.getD k 0).toNat) default (by have:=hix.1;omega) (by have h8:=hix.1;have h9:=hix.2;omega)];simp only[ae,vx];rw[show l.getD (ord.getD k 0).toNat default=xV l ord k from rfl];by_cases h1:(xV l ord k).to<e
     . right;rw[if_pos h1];refine⟨_,rfl,.inl ⟨_,_,rfl,?_⟩⟩;have hk0:k≠0:=fun h=>by have:=hc.zero h;omega
       have hl:=hc.last (k-1) (by omega);have hle:=ho.le (p:=k-1) (q:=k) (by omega) hlt;have hix':=ho.ix (k:=k-1) (by omega);refine⟨(ord.getD (k-1) 0).toNat,(ord.getD k 0).toNat,by have h8:=hix'.1;have h9:=hix'.2;omega,by have h8:=hix.1;have h9:=hix.2;omega,fun h=>by have:=ho.inj (by omega) hlt h;omega,?_⟩;show ov (xV l ord (k-1)) (xV l ord k)=true;unfold ov;rw[ax];unfold ed at*
       omega
     . left;rw[if_neg h1];have hnew:Pl l ord (k+1) (ed (xV l ord k)):=⟨fun h=>by omega,fun j hj=>by rw[show j=k by omega],fun p q hpq hqk=>by
        by_cases hq:q=k
        . subst hq;have:=hc.le (fun c hc'=>⟨(hg c hc').1,(hg c hc').2.1⟩) ho (by omega) hpq;omega
        . exact hc.apart p q hpq (by omega)⟩
       have e1:fX ⟨(xV l ord k).to,eD (xV l ord k)⟩=some (ed (xV l ord k)):=by
        unfold fX;simp only;rw[fm (by omega) (by unfold ed at hgo;omega)];rfl
       have e2:i64.wrap ((k:Int)+1)=((k+1:Nat):Int):=df hlt (by omega);obtain⟨h0,hgp⟩:=hgap;have he:e<ed (xV l ord k)\/e=(xV l ord k).to/\e<ed (xV l ord k):=.inl (by unfold ed;omega);have he':e<ed (xV l ord k):=by unfold ed;omega
       rcases hgp with⟨rfl,hcov⟩|⟨hg0,hge,hcov,hnot,hcand⟩
       . by_cases h2:(xV l ord k).to>e
         . simp only[h2,if_true,ae,show((-1:Int)<0)=True by simp,decide_true,e1,e2];refine⟨l.length-(k+1),_,rfl,by omega,k+1,_,e,rfl,rfl,by omega,hnew,by omega,.inr ⟨h0,he',fun o h3 h4=>?_,fun p hp'=>?_,?_⟩⟩
           . obtain⟨p,h5,h6⟩:=hcov o h3 h4;exact⟨p,by omega,h6⟩
           . by_cases hpk:p=k
             . subst hpk;omega
             . have:=hc.le (fun c hc'=>⟨(hg c hc').1,(hg c hc').2.1⟩) ho (by omega) (p:=p) (by omega);omega
           . by_cases hk0:k=0
             . exact .inl (hc.zero hk0)
             . exact .inr ⟨k-1,by omega,hc.last (k-1) (by omega)⟩
         . simp only[h2,if_false,ae,aM,e1,e2];refine⟨l.length-(k+1),_,rfl,by omega,k+1,_,-1,rfl,rfl,by omega,hnew,by omega,.inl ⟨rfl,fun o h3 h4=>?_⟩⟩;by_cases h5:o<e
           . obtain⟨p,h6,h7⟩:=hcov o h3 h5;exact⟨p,by omega,h7⟩
           . exact⟨k,by omega,by omega,h4⟩
       . have hng:¬ g<0:=by omega
         have hres:(if(xV l ord k).to>e then some (decide (g<0))else some false)=some false:=by
          split
          . rw[decide_eq_false hng]
          . rfl
         simp only[hres,ae,aM,if_false,e1,e2];refine⟨l.length-(k+1),_,rfl,by omega,k+1,_,g,rfl,rfl,by omega,hnew,by omega,.inr ⟨hg0,by omega,fun o h3 h4=>?_,fun p hp'=>?_,?_⟩⟩
         . obtain⟨p,h5,h6⟩:=hcov o h3 h4;exact⟨p,by omega,h6⟩
         . by_cases hpk:p=k
           . subst hpk;omega
           . exact hnot p (by omega)
         . rcases hcand with h|⟨p,h5,h6⟩
           . exact .inl h
           . exact .inr ⟨p,by omega,h6⟩
   . right;rw[if_neg (show ¬ ((k:Int),(0:Int),false,e,g).1<((ord.length:Nat):Int)by simp;omega)];have:k=l.length:=by omega
     subst this;exact⟨_,rfl,.inr ⟨e,g,rfl,hc,hgap⟩⟩) l.length (0,0,false,0,-1)
  ⟨0,0,-1,rfl,rfl,Nat.zero_le _,⟨fun _=>rfl,fun j hj=>by omega,fun p q h1 h2=>by omega⟩,Int.le_refl _,.inl ⟨rfl,fun o h1 h2=>by omega⟩⟩
 rcases hq with⟨_,_,rfl,hm⟩|⟨e,g,rfl,hc,h0,hgap⟩
 . left
   rw[hr]
   exact⟨hm,rfl⟩
 . right
   rw[hr]
   simp only[ae,pn]
   have hgl:∀c∈l,0<=c.to/\1<=eD c:=fun c hc'=>⟨(hg c hc').1,(hg c hc').2.1⟩
   refine⟨fun⟨i,j,hi,hj,hne,hov⟩=>?_,?_⟩
   . obtain⟨p,hp1,hp2⟩:=ho.acz hi
     obtain⟨q,hq1,hq2⟩:=ho.acz hj
     have hpq:p≠q:=fun h=>hne (by rw[<- hp2,<- hq2,h])
     have k1:cat l i=xV l ord p:=by unfold xV;rw[hp2]
     have k2:cat l j=xV l ord q:=by unfold xV;rw[hq2]
     rw[k1,k2]at hov
     unfold ov at hov
     rw[ax]at hov
     rcases Nat.lt_or_gt_of_ne hpq with h|h
     . have:=hc.apart p q h hq1;omega
     . have:=hc.apart q p h hp1;omega
   . rcases hgap with⟨rfl,hcov⟩|⟨hg0,hge,hcov,hnot,hcand⟩
     . rw[if_neg (by omega)]
       refine⟨e,rfl,h0,fun o h1 h2=>?_,fun⟨c,hcl,h1,h2⟩=>?_,?_⟩
       . obtain⟨p,h3,h4⟩:=hcov o h1 h2
         exact⟨_,ho.mem h3,h4⟩
       . obtain⟨k,hk,rfl⟩:=ho.any hcl
         have:=hc.le hgl ho (Nat.le_refl _) hk
         omega
       . by_cases hk0:l.length=0
         . exact .inl (hc.zero hk0)
         . exact .inr ⟨_,ho.mem (k:=l.length-1) (by omega),hc.last (l.length-1) (by omega)⟩
     . rw[if_pos (by omega)]
       refine⟨g,rfl,hg0,fun o h1 h2=>?_,fun⟨c,hcl,h1,h2⟩=>?_,?_⟩
       . obtain⟨p,h3,h4⟩:=hcov o h1 h2
         exact⟨_,ho.mem h3,h4⟩
       . obtain⟨k,hk,rfl⟩:=ho.any hcl
         exact hnot k hk ⟨h1,h2⟩
       . rcases hcand with h|⟨p,h3,h4⟩
         . exact .inl h
         . exact .inr ⟨_,ho.mem h3,h4⟩
end
end G
end Go.Proofs.YtekpafdhgkocaaaGreat
namespace Go.Proofs.YtekpafdhgkocaaaGreat
open IntKind(i64)
open G
namespace G
theorem Dv{l:List bO}:B6 l↔∃i,i<l.length/\QB l i=true:=by
 have key:∀i j,i<l.length->j<i->ov (cat l i) (cat l j)=true->∃i,i<l.length/\QB l i=true:=fun i j hi hj h=>by
  refine⟨i,hi,?_⟩;unfold QB;rw[bI];refine⟨cat l j,?_,h⟩;rw[bW (by omega)];exact List.mem_take_iff_getElem.2 ⟨j,by omega,rfl⟩
 constructor
 . rintro⟨i,j,hi,hj,hne,h⟩;rcases Nat.lt_or_gt_of_ne hne with k|k
   . exact key j i hj k (by rw[OQ];exact h)
   . exact key i j hi k h
 . rintro⟨i,hi,h⟩;unfold QB at h;rw[bI]at h;obtain⟨c,hc,h⟩:=h;obtain⟨j,hj,rfl⟩:=List.mem_take_iff_getElem.1 hc;refine⟨i,j,hi,by omega,by omega,?_⟩;rw[bW (i:=j) (by omega)];exact h
section
variable {d:bZ}
theorem Lq(hg:∀c∈d.bP,Good d c)(hn:d.bP.length<=17592186044416){i:Nat}(hi:i<d.bP.length):
 Iter (mH d.bP (i:Int) (d.bP.take i)) 0=some (if QB d.bP i=true then .inr (i:Int)else .inl ((i+1:Nat):Int)):=by
 have hl:(d.bP.take i).length=i:=by simp;omega
 have hK:=jj (f:=mH d.bP (i:Int) (d.bP.take i)) (d.bP.take i) (fun c=>ov (cat d.bP i) c) (fun k=>(k:Int)) (fun _=>.inr (i:Int)) (.inl ((i+1:Nat):Int))
  (fun k h hb=>by
   obtain⟨e,he⟩:=J6 (hg _ (xx hi)) (hg _ (List.mem_of_mem_take (az h)));unfold mH;rw[if_pos (by omega),cC h,eG default hi];simp only[ae,vx,he,hb,aM,if_false];rw[df (n:=17592186044417) (by omega) (by omega)])
  (fun k h hb=>by
   obtain⟨e,he⟩:=J6 (hg _ (xx hi)) (hg _ (List.mem_of_mem_take (az h)));unfold mH;rw[if_pos (by omega),cC h,eG default hi];simp only[ae,vx,he,hb,if_true])
  (by unfold mH;rw[if_neg (by omega),df (n:=17592186044417) (by omega) (by omega)]) (s:=0) rfl
 rcases hK with⟨ha,he⟩|⟨k,h,hb,_,he⟩
 . rw[he,if_neg]
   unfold QB;rw[bI]
   rintro⟨c,hc,h⟩
   rw[ha c hc]at h;cases h
 . rw[he,if_pos]
   unfold QB;rw[bI]
   exact⟨_,az h,hb⟩
theorem IL(hg:∀c∈d.bP,Good d c)(hn:d.bP.length<=17592186044416){i:Nat}(hi:i<d.bP.length):
 Iter (jk d (i:Int)) 0=some (if QB d.bP i=true then .inr (.inr (4,(i:Int)))else .inl ((i+1:Nat):Int)):=by
 have hl:(d.bP.take i).length=i:=by simp;omega
 have hK:=jj (f:=jk d (i:Int)) (d.bP.take i) (fun c=>ov (cat d.bP i) c) (fun k=>(k:Int)) (fun _=>.inr (.inr (4,(i:Int)))) (.inl ((i+1:Nat):Int))
  (fun k h hb=>by
   obtain⟨e,he,he2⟩:=IA (hg _ (xx hi)) (hg _ (List.mem_of_mem_take (az h)));have hk:(d.bP.take i)[k]=d.bP[k]'(by omega):=List.getElem_take;rw[hk]at he he2 hb;unfold jk;rw[if_pos (by omega),eG default hi,cC (show k<d.bP.length by omega)];simp only[ae,yg,he];rw[if_neg (by rw[hb]at he2;simpa using he2),df (n:=17592186044417) (by omega) (by omega)])
  (fun k h hb=>by
   obtain⟨e,he,he2⟩:=IA (hg _ (xx hi)) (hg _ (List.mem_of_mem_take (az h)));have hk:(d.bP.take i)[k]=d.bP[k]'(by omega):=List.getElem_take;rw[hk]at he he2 hb;unfold jk;rw[if_pos (by omega),eG default hi,cC (show k<d.bP.length by omega)];simp only[ae,yg,he];rw[if_pos (by rw[hb]at he2;simpa using he2)])
  (by unfold jk;rw[if_neg (by omega),df (n:=17592186044417) (by omega) (by omega)]) (s:=0) rfl
 rcases hK with⟨ha,he⟩|⟨k,h,hb,_,he⟩
 . rw[he,if_neg]
   unfold QB;rw[bI]
   rintro⟨c,hc,h⟩
   rw[ha c hc]at h;cases h
 . rw[he,if_pos]
   unfold QB;rw[bI]
   exact⟨_,az h,hb⟩
def Dc(l:List bO)(i:Nat):Prop:=i<l.length/\QB l i=true/\∀j,j<i->QB l j=false
theorem Dc.unique{l:List bO}{i j:Nat}(h:Dc l i)(k:Dc l j):i=j:=by
 rcases Nat.lt_trichotomy i j with q|q|q
 . have:=k.2.2 i q;rw[h.2.1]at this;cases this
 . exact q
 . have:=h.2.2 j q;rw[k.2.1]at this;cases this
theorem Sw(hg:∀c∈d.bP,Good d c)(hn:d.bP.length<=17592186044416)(hm:B6 d.bP):
 ∃i,Dc d.bP i/\vZ d.bP=some (i:Int):=by
 have hK:=jj (f:=oW d.bP) (List.range d.bP.length) (fun i=>QB d.bP i) (fun k=>(k:Int)) (fun k=>(k:Int)) (-1)
  (fun k h hb=>by
   simp at h hb;unfold oW;rw[if_pos (by omega),AM (by omega)];simp only[ae,aP];rw[Lq hg hn h,hb];rfl)
  (fun k h hb=>by
   simp at h hb;unfold oW;rw[if_pos (by omega),AM (by omega)];simp only[ae,aP];rw[Lq hg hn h,hb];rfl)
  (by unfold oW;simp) (s:=0) rfl
 unfold vZ
 rcases hK with⟨ha,he⟩|⟨k,h,hb,hj,he⟩
 . obtain⟨i,hi,h⟩:=Dv.1 hm
   have:=ha i (List.mem_range.2 hi)
   rw[h]at this;cases this
 . simp at h hb
   exact⟨k,⟨h,hb,fun j hjk=>by simpa using hj j hjk⟩,he⟩
theorem CK(hg:∀c∈d.bP,Good d c)(hn:d.bP.length<=17592186044416):
 (¬ B6 d.bP/\Iter (gB d) 0=some (.inl ()))\/(B6 d.bP/\∃i,Dc d.bP i/\Iter (gB d) 0=some (.inr (4,(i:Int)))):=by
 have hK:=jj (f:=gB d) (List.range d.bP.length) (fun i=>QB d.bP i) (fun k=>(k:Int)) (fun k=>.inr (4,(k:Int))) (.inl ())
  (fun k h hb=>by
   simp at h hb;unfold gB;rw[if_pos (by omega),IL hg hn h,hb];rfl)
  (fun k h hb=>by
   simp at h hb;unfold gB;rw[if_pos (by omega),IL hg hn h,hb];rfl)
  (by unfold gB;simp) (s:=0) rfl
 rcases hK with⟨ha,he⟩|⟨k,h,hb,hj,he⟩
 . refine .inl ⟨fun hm=>?_,he⟩
   obtain⟨i,hi,h⟩:=Dv.1 hm
   have:=ha i (List.mem_range.2 hi)
   rw[h]at this;cases this
 . simp at h hb
   exact .inr ⟨Dv.2 ⟨k,h,hb⟩,k,⟨h,hb,fun j hjk=>by simpa using hj j hjk⟩,he⟩
theorem Rn(hg:∀c∈d.bP,Good d c)(hn:d.bP.length<=17592186044416)(o:Int):∃r,nA d o=some r/\(r<0↔¬ Ra d.bP o)/\(0<=r->∃k:Nat,∃h:k<d.bP.length,r=(k:Int)/\d.bP[k].to<=o/\o<ed d.bP[k]):=by
 have hh:∀c∈d.bP,uJ c o=some (decide (c.to<=o/\o<ed c)):=fun c hc=>by
  have h1:=hg c hc;unfold uJ yr;have:=h1.JY;have:=h1.max;have:=h1.qM;simp only[yg,ae];unfold ed at*
  rw[fm (by omega) (by omega)];by_cases h:o≥c.to
  . rw[if_pos h];simp only[ae];congr 1;rw[bp];omega
  . rw[if_neg h];simp only[ae];congr 1;symm;rw[bf];omega
 have hK:=jj (f:=mW d o) d.bP (fun c=>decide (c.to<=o/\o<ed c)) (fun k=>(k:Int)) (fun k=>(k:Int)) (-1)
  (fun k h hb=>by
   unfold mW;rw[if_pos (by omega),cC h];simp only[ae,hh _ (az h),hb,aM,if_false];rw[df (n:=17592186044417) (by omega) (by omega)])
  (fun k h hb=>by
   unfold mW;rw[if_pos (by omega),cC h];simp only[ae,hh _ (az h),hb,if_true])
  (by unfold mW;simp) (s:=0) rfl
 unfold nA;rcases hK with⟨ha,he⟩|⟨k,h,hb,hj,he⟩
 . refine⟨-1,he,?_,fun h=>by omega⟩;refine⟨fun _ ⟨c,hc,h⟩=>?_,fun _=>by omega⟩;have:=ha c hc;simp only[bf]at this;exact this h
 . refine⟨(k:Int),he,⟨fun h=>by omega,fun hnc=>absurd ⟨_,az h,by simpa using hb⟩ hnc⟩,fun _=>⟨k,h,rfl,by simpa using hb⟩⟩
theorem Wk(hg:∀c∈d.bP,Good d c)(hn:d.bP.length<=17592186044416)(o:Int):∃r,nA d o=some r/\(r<0↔¬ Ra d.bP o):=by
 obtain⟨r,h1,h2,_⟩:=Rn hg hn o;exact⟨r,h1,h2⟩
theorem JH(hg:∀c∈d.bP,Good d c)(hn:d.bP.length<=17592186044416){t:Int}(ht:Tc d.bP t):
 uH d=some (if t<d.cd then t else -1):=by
 unfold uH
 obtain⟨r,hr,hq⟩:=cn (f:=uI d)
  (fun m st=>∃(k:Nat) (out:Int),st=(out,(k:Int)-1)/\m=d.bP.length+1-k/\k<=d.bP.length+1/\(out= -1\/(t<=out/\out<d.cd))/\(t<d.cd->(0<k/\t=0\/∃j,j+1<k/\t=ed (cat d.bP j))->out=t))
  (fun r=>r=if t<d.cd then t else -1) (by
   rintro m st ⟨k,out,rfl,rfl,hk,h1,h2⟩;unfold uI;by_cases hlt:k<d.bP.length+1
   . left;rw[if_pos (show(out,(k:Int)-1).2<(d.bP.length:Int)by simp;omega)];obtain⟨v,hv,hv0,hvc⟩:∃v,(if(out,(k:Int)-1).2≥0 then(idx d.bP (out,(k:Int)-1).2).bind fun x2=>(idx d.bP (out,(k:Int)-1).2).bind fun x3=>(kY x3).bind fun y2=>some (i64.wrap (x2.to+y2))else some 0)=some v/\0<=v/\(k=0/\v=0\/∃j,j+1=k/\v=ed (cat d.bP j)):=by
      by_cases hk0:k=0
      . subst hk0;exact⟨0,by rw[if_neg (by simp)],Int.le_refl _,.inl ⟨rfl,rfl⟩⟩
      . have hgo:=hg _ (xx (l:=d.bP) (i:=k-1) (by omega));rw[if_pos (by simp;omega)];simp only[xY (k:=k-1) default (show(k:Int)-1=((k-1:Nat):Int)by omega) (show k-1<d.bP.length by omega),ae,Jw];have:=hgo.JY;have:=hgo.max;have:=hgo.qM;refine⟨ed (cat d.bP (k-1)),?_,by unfold ed at *; omega,.inr ⟨k-1,by omega,rfl⟩⟩;unfold ed at*
        show some (i64.wrap ((cat d.bP (k-1)).to+eD (cat d.bP (k-1))))=_;rw[fm (by omega) (by omega)]
     rw[hv];obtain⟨f,hf,hfc⟩:=Wk hg hn v;obtain⟨b,hb,hbi⟩:∃b,(if v<d.cd then(nA d v).bind fun y1=>if y1<0 then(if(out,(k:Int)-1).1<0 then some true else some (decide (v<(out,(k:Int)-1).1)))else some false else some false)=some b/\(b=true↔v<d.cd/\¬ Ra d.bP v/\(out<0\/v<out)):=by
      by_cases c1:v<d.cd
      . rw[if_pos c1,hf];simp only[ae];by_cases c2:f<0
        . rw[if_pos c2];have c2':=hfc.1 c2;by_cases c3:out<0
          . exact⟨true,by rw[if_pos c3],by simp[c1,c2',c3]⟩
          . exact⟨_,by rw[if_neg c3],by simp[c1,c2',c3]⟩
        . exact⟨false,by rw[if_neg c2],by simp only[aM,false_iff];exact fun h=>c2 (hfc.2 h.2.1)⟩
      . exact⟨false,by rw[if_neg c1],by simp[c1]⟩
     simp only[ae];rw[hb];simp only[ae];have hw:i64.wrap ((k:Int)-1+1)=((k+1:Nat):Int)-1:=by rw[fm (by omega) (by omega)];omega
     have hvt:¬ Ra d.bP v->t<=v:=fun h=>by
      refine Int.not_lt.1 fun hlt'=>h (ht.cov v hv0 hlt')
     by_cases hbt:b=true
     . have hb':=hbi.1 hbt;rw[if_pos hbt,hw];refine⟨d.bP.length+1-(k+1),_,rfl,by omega,k+1,v,rfl,rfl,by omega,.inr ⟨hvt hb'.2.1,hb'.1⟩,fun htn hc=>?_⟩;have h3:=hvt hb'.2.1;have key:(0<k/\t=0\/∃j,j+1<k/\t=ed (cat d.bP j))->v=t:=fun hc=>by
        have q1:=h2 htn hc;have q2:=ht.pos;have q3:=hb'.2.2;clear hvc hc h2;omega
       rcases hc with⟨_,h0⟩|⟨j,hj,hjt⟩
       . rcases hvc with⟨h4,h5⟩|⟨j,h4,h5⟩
         . omega
         . exact key (.inl ⟨by omega,h0⟩)
       . by_cases hjk:j+1=k
         . rcases hvc with⟨h4,h5⟩|⟨j',h4,h5⟩
           . omega
           . have:j'=j:=by omega
             subst this;omega
         . exact key (.inr ⟨j,by omega,hjt⟩)
     . have hb':=fun h=>hbt (hbi.2 h)
       rw[if_neg hbt,hw];refine⟨d.bP.length+1-(k+1),_,rfl,by omega,k+1,out,rfl,rfl,by omega,h1,fun htn hc=>?_⟩;have hvis:v=t->out=t:=fun hvt'=>by
        have:=ht.pos;have h6:¬ (out<0\/v<out):=fun h=>hb' ⟨by clear hvc hc h2;omega,by rw[hvt'];exact ht.not,h⟩
        clear hvc hc h2;omega
       rcases hc with⟨_,h0⟩|⟨j,hj,hjt⟩
       . rcases hvc with⟨h4,h5⟩|⟨j,h4,h5⟩
         . exact hvis (by omega)
         . exact h2 htn (.inl ⟨by omega,h0⟩)
       . by_cases hjk:j+1=k
         . rcases hvc with⟨h4,h5⟩|⟨j',h4,h5⟩
           . omega
           . have:j'=j:=by omega
             subst this;exact hvis (by omega)
         . exact h2 htn (.inr ⟨j,by omega,hjt⟩)
   . right;rw[if_neg (show ¬ (out,(k:Int)-1).2<(d.bP.length:Int)by simp;omega)];refine⟨_,rfl,?_⟩;by_cases htn:t<d.cd
     . rw[if_pos htn];refine h2 htn ?_;rcases ht.adT with h|⟨c,hc,h⟩
       . exact .inl ⟨by omega,h⟩
       . obtain⟨i,hi,rfl⟩:=JQ hc;exact .inr ⟨i,by omega,h⟩
     . rw[if_neg htn];rcases h1 with h|h
       . exact h
       . omega) (d.bP.length+1) ((-1),(-1))
  ⟨0,-1,by simp,by omega,by omega,.inl rfl,fun _ h=>by rcases h with h|⟨j,h,_⟩<;>omega⟩
 rw[hr,hq]
end
def Pd(d:bZ):Prop:=0<=d.cZ/\d.cZ<=4611686018427387903/\0<=d.cd/\d.cd<=4611686018427387903
instance (d:bZ):Decidable (Pd d):=by unfold Pd;infer_instance
def Ta(d:bZ)(e p:Int):Prop:=
 (¬ Pd d/\e=2/\p= -1)\/(Pd d/\∃i,i<d.bP.length/\(∀j,j<i->Good d (cat d.bP j))/\¬ Good d (cat d.bP i)/\e=QZ d (cat d.bP i)/\p=i)\/
 (Pd d/\(∀c∈d.bP,Good d c)/\B6 d.bP/\∃i:Nat,Dc d.bP i/\e=4/\p=i)\/
 (Pd d/\(∀c∈d.bP,Good d c)/\¬ B6 d.bP/\∃t,Tc d.bP t/\((t<d.cd/\e=3/\p=t)\/(¬ t<d.cd/\e=0/\p=0)))
theorem abp{d:bZ}(hn:d.bP.length<=17592186044416):∃e p,Ta d e p/\wA d=some ⟨e,p⟩/\jV d=some (e,p):=by
 have h1:((qH d.cZ).bind fun y4=>if y4=false then some true else(qH d.cd).bind fun y5=>some (!y5))=some (decide (¬ Pd d)):=by
  unfold qH Pd;simp only[Pw,ae];by_cases a:Pg 0 d.cZ=true
  . rw[a,if_neg (by simp)];congr 1;have a':=zI.1 a;by_cases b:Pg 0 d.cd=true
    . have b':=zI.1 b;rw[b];symm;exact decide_eq_false (fun h=>h (by omega))
    . have b':=fun h=>b (zI.2 h)
      rw[show Pg 0 d.cd=false by simpa using b];symm;exact aG (fun h=>b' (by omega))
  . have a':=fun h=>a (zI.2 h)
    rw[show Pg 0 d.cZ=false by simpa using a,if_pos rfl];congr 1;symm;exact aG (fun h=>a' (by omega))
 have h2:(if d.cZ<0 then some true else if d.cd<0 then some true else(fu).bind fun y6=>if d.cZ>y6 then some true else(fu).bind fun y7=>some (decide (d.cd>y7)))=some (decide (¬ Pd d)):=by
  unfold fu Pd;simp only[ae];split
  . congr 1;symm;rw[ax];omega
  . split
    . congr 1;symm;rw[ax];omega
    . split
      . congr 1;symm;rw[ax];omega
      . congr 1;rw[bp];omega
 unfold wA jV;rw[h1,h2];by_cases hr:Pd d
 . simp only[hr,not_true_eq_false,decide_false,ae,aM,if_false];have hA:=jj (f:=ri d) d.bP (fun c=>decide (QZ d c≠0)) (fun k=>(k:Int)) (fun k=>.inr (⟨QZ d (cat d.bP k),(k:Int)⟩:sP)) (.inl ())
    (fun k h hb=>by
     unfold ri;rw[if_pos (by omega),cC h];simp only[ae,Nz];rw[if_neg (by simpa using hb),df (n:=17592186044417) (by omega) (by omega)])
    (fun k h hb=>by
     unfold ri;rw[if_pos (by omega),cC h];simp only[ae,Nz];rw[if_pos (by simpa using hb),bW h])
    (by unfold ri;simp) (s:=0) rfl
   have hB:=jj (f:=eP d) d.bP (fun c=>decide (QZ d c≠0)) (fun k=>(k:Int)) (fun k=>.inr (QZ d (cat d.bP k),(k:Int))) (.inl ())
    (fun k h hb=>by
     unfold eP;rw[if_pos (by omega),cC h];simp only[ae,BI];rw[if_neg (by simpa using hb),df (n:=17592186044417) (by omega) (by omega)])
    (fun k h hb=>by
     unfold eP;rw[if_pos (by omega),cC h];simp only[ae,BI];rw[if_pos (by simpa using hb),bW h])
    (by unfold eP;simp) (s:=0) rfl
   rcases hA with⟨ha,he⟩|⟨k,h,hb,hj,he⟩
   . rcases hB with⟨_,hf⟩|⟨k,h,hb,_,_⟩
     . have hg:∀c∈d.bP,Good d c:=fun c hc=>yH.1 (by simpa using ha c hc)
       simp only[he,hf,ae,pn];rcases YT (l:=d.bP) (fun c hc=>⟨(hg c hc).JY,(hg c hc).qM,(hg c hc).max⟩) hn with⟨hm,ht⟩|⟨hm,t,ht,hte⟩
       . obtain⟨i,hi,ho⟩:=Sw hg hn hm;rcases CK hg hn with⟨hm',_⟩|⟨_,j,hj,ho'⟩
         . exact absurd hm hm'
         . have:=hi.unique hj;subst this;refine⟨4,(i:Int),.inr (.inr (.inl ⟨hr,hg,hm,i,hi,rfl,rfl⟩)),?_,?_⟩
           . rw[ht];simp only[ae,if_true,ho]
           . rw[ho'];rfl
       . rcases CK hg hn with⟨_,ho'⟩|⟨hm',_⟩
         . have:=hte.pos;by_cases hlt:t<d.cd
           . refine⟨3,t,.inr (.inr (.inr ⟨hr,hg,hm,t,hte,.inl ⟨hlt,rfl,rfl⟩⟩)),?_,?_⟩
             . rw[ht];simp[hlt]
             . rw[ho'];simp only[ae,pn,JH hg hn hte,if_pos hlt];rw[if_pos (by omega)]
           . refine⟨0,0,.inr (.inr (.inr ⟨hr,hg,hm,t,hte,.inr ⟨hlt,rfl,rfl⟩⟩)),?_,?_⟩
             . rw[ht];simp[hlt]
             . rw[ho'];simp only[ae,pn,JH hg hn hte,if_neg hlt];rw[if_neg (by omega)]
         . exact absurd hm' hm
     . have:=ha _ (az h);rw[hb]at this;cases this
   . rcases hB with⟨ha,_⟩|⟨k',h',hb',hj',hf⟩
     . have:=ha _ (az h);rw[hb]at this;cases this
     . have:k=k':=by
        rcases Nat.lt_trichotomy k k' with q|q|q
        . have:=hj' k q;rw[hb]at this;cases this
        . exact q
        . have:=hj k' q;rw[hb']at this;cases this
       subst this;refine⟨QZ d (cat d.bP k),(k:Int),.inr (.inl ⟨hr,k,h,fun j hjk=>?_,?_,rfl,rfl⟩),?_,?_⟩
       . rw[bW (by omega)];exact yH.1 (by simpa using hj j hjk)
       . rw[bW h];exact Yz.1 (by simpa using hb)
       . rw[he];rfl
       . rw[hf];rfl
 . exact⟨2,-1,.inl ⟨hr,rfl,rfl⟩,by simp[hr],by simp[hr]⟩
structure VD(d:bZ):Prop where
 Yh:Pd d
 sD:∀c∈d.bP,Good d c
 apart:¬ B6 d.bP
 full:∀o,0<=o->o<d.cd->Ra d.bP o
theorem Ta.zero{d:bZ}{e p:Int}(h:Ta d e p):(e=0↔VD d)/\(e=0->p=0):=by
 rcases h with⟨h1,rfl,rfl⟩|⟨h1,i,hi,_,hb,rfl,rfl⟩|⟨h1,h2,h3,i,_,rfl,rfl⟩|⟨h1,h2,h3,t,ht,⟨h4,rfl,rfl⟩|⟨h4,rfl,rfl⟩⟩
 . exact⟨⟨fun h=>by omega,fun h=>absurd h.Yh h1⟩,fun h=>by omega⟩
 . exact⟨⟨fun h=>absurd (yH.1 h) hb,fun h=>absurd (h.sD _ (xx hi)) hb⟩,fun h=>absurd (yH.1 h) hb⟩
 . exact⟨⟨fun h=>by omega,fun h=>absurd h3 h.apart⟩,fun h=>by omega⟩
 . exact⟨⟨fun h=>by omega,fun h=>absurd (h.full p ht.pos h4) ht.not⟩,fun h=>by omega⟩
 . exact⟨⟨fun _=>⟨h1,h2,h3,fun o h5 h6=>ht.cov o h5 (by omega)⟩,fun _=>rfl⟩,fun _=>rfl⟩
theorem abI{d:bZ}(hg:∀c∈d.bP,Good d c):∃t,Tc d.bP t:=by
 have hbig:∃n:Nat,¬ Ra d.bP (n:Int):=⟨4611686018427387904,fun⟨c,hc,_,h2⟩=>by have:=(hg c hc).max;omega⟩;have hmin:∀n:Nat,¬ Ra d.bP (n:Int)->∃m:Nat,¬ Ra d.bP (m:Int)/\∀k,k<m->Ra d.bP (k:Int):=fun n=>by
  induction n using Nat.strongRecOn with
  |_ n ih=>
   intro h
   by_cases hc:∀k,k<n->Ra d.bP (k:Int)
   . exact⟨n,h,hc⟩
   . obtain⟨k,hk⟩:=Classical.not_forall.1 hc
     rw[Classical.not_imp]at hk
     exact ih k hk.1 hk.2
 obtain⟨n,hn⟩:=hbig;obtain⟨m,h1,h2⟩:=hmin n hn;refine⟨(m:Int),by omega,fun o h3 h4=>?_,h1,?_⟩
 . have:=h2 o.toNat (by omega);rw[Int.toNat_of_nonneg h3]at this;exact this
 . cases m with
   |zero=>exact .inl rfl
   |succ m=>
    obtain⟨c,hc,k1,k2⟩:=h2 m (by omega)
    refine .inr ⟨c,hc,?_⟩
    refine aN fun he=>h1 ⟨c,hc,by omega,by omega⟩
theorem Zd{d:bZ}(hn:d.bP.length<=17592186044416):∃e p,Ta d e p/\jV d=some (e,p):=by
 have h2:(if d.cZ<0 then some true else if d.cd<0 then some true else(fu).bind fun y6=>if d.cZ>y6 then some true else(fu).bind fun y7=>some (decide (d.cd>y7)))=some (decide (¬ Pd d)):=by
  unfold fu Pd;simp only[ae];split
  . congr 1;symm;rw[ax];omega
  . split
    . congr 1;symm;rw[ax];omega
    . split
      . congr 1;symm;rw[ax];omega
      . congr 1;rw[bp];omega
 unfold jV;rw[h2];by_cases hr:Pd d
 . simp only[hr,not_true_eq_false,decide_false,ae,aM,if_false];have hB:=jj (f:=eP d) d.bP (fun c=>decide (QZ d c≠0)) (fun k=>(k:Int)) (fun k=>.inr (QZ d (cat d.bP k),(k:Int))) (.inl ())
    (fun k h hb=>by
     unfold eP;rw[if_pos (by omega),cC h];simp only[ae,BI];rw[if_neg (by simpa using hb),df (n:=17592186044417) (by omega) (by omega)])
    (fun k h hb=>by
     unfold eP;rw[if_pos (by omega),cC h];simp only[ae,BI];rw[if_pos (by simpa using hb),bW h])
    (by unfold eP;simp) (s:=0) rfl
   rcases hB with⟨ha,hf⟩|⟨k,h,hb,hj,hf⟩
   . have hg:∀c∈d.bP,Good d c:=fun c hc=>yH.1 (by simpa using ha c hc)
     simp only[hf,ae,pn];rcases CK hg hn with⟨hm,ho'⟩|⟨hm,j,hj,ho'⟩
     . obtain⟨t,hte⟩:=abI hg;have:=hte.pos;by_cases hlt:t<d.cd
       . refine⟨3,t,.inr (.inr (.inr ⟨hr,hg,hm,t,hte,.inl ⟨hlt,rfl,rfl⟩⟩)),?_⟩;rw[ho'];simp only[ae,pn,JH hg hn hte,if_pos hlt];rw[if_pos (by omega)]
       . refine⟨0,0,.inr (.inr (.inr ⟨hr,hg,hm,t,hte,.inr ⟨hlt,rfl,rfl⟩⟩)),?_⟩;rw[ho'];simp only[ae,pn,JH hg hn hte,if_neg hlt];rw[if_neg (by omega)]
     . refine⟨4,(j:Int),.inr (.inr (.inl ⟨hr,hg,hm,j,hj,rfl,rfl⟩)),?_⟩;rw[ho'];rfl
   . refine⟨QZ d (cat d.bP k),(k:Int),.inr (.inl ⟨hr,k,h,fun j hjk=>?_,?_,rfl,rfl⟩),?_⟩
     . rw[bW (by omega)];exact yH.1 (by simpa using hj j hjk)
     . rw[bW h];exact Yz.1 (by simpa using hb)
     . rw[hf];rfl
 . exact⟨2,-1,.inl ⟨hr,rfl,rfl⟩,by simp[hr]⟩
theorem Ru{d:bZ}(hn:d.bP.length<=17592186044416):∃b,rY d=some b/\(b=true↔VD d):=by
 obtain⟨e,p,h1,h3⟩:=Zd hn;unfold rY;rw[h3];simp only[ae];exact⟨decide (e=0),by congr 1,by rw[ax];exact h1.zero.1⟩
theorem Pn{d:bZ}(hn:d.bP.length<=17592186044416)(h:VD d):wA d=some ⟨0,0⟩/\jV d=some (0,0):=by
 obtain⟨e,p,h1,h2,h3⟩:=abp hn;have he:=h1.zero.1.2 h;have hp:=h1.zero.2 he;subst he hp;exact⟨h2,h3⟩
end G
end Go.Proofs.YtekpafdhgkocaaaGreat
namespace Go.Proofs.YtekpafdhgkocaaaGreat
open IntKind(i64)
open G
namespace G
def W1(d:bZ):Bool:=d.bP.all (fun c=>decide (c.data.length<=300))&&decide (d.bP.length<=40)
theorem Ze(d:bZ)(hn:d.bP.length<=9223372036854775807):uG d=some (W1 d):=by
 unfold uG W1;have hK:=jj (f:=nK d) d.bP (fun c=>!decide (c.data.length<=300)) (fun k=>(k:Int)) (fun _=>.inr false) (.inl ())
  (fun k h hb=>by
   unfold nK;rw[if_pos (by omega),cC h];simp only[ae];simp at hb;rw[if_neg (by omega),df h hn])
  (fun k h hb=>by
   unfold nK;rw[if_pos (by omega),cC h];simp only[ae];simp at hb;rw[if_pos (by omega)])
  (by unfold nK;rw[if_neg (by omega)]) (s:=0) rfl
 rcases hK with⟨ha,he⟩|⟨k,h,hb,_,he⟩
 . have:d.bP.all (fun c=>decide (c.data.length<=300))=true:=by rw[a7];intro x hx;simpa using ha x hx
   rw[he,this];simp only[ae,pn,Bool.true_and];congr 1;rw[bp];omega
 . have:d.bP.all (fun c=>decide (c.data.length<=300))=false:=by rw[List.all_eq_false];exact⟨_,az h,by simpa using hb⟩
   rw[he,this];rfl
theorem W2{d:bZ}:W1 d=true↔(∀c∈d.bP,c.data.length<=300)/\d.bP.length<=40:=by
 unfold W1;rw[aq,a7,ax];simp
theorem Uz(l:List UInt8)(h:l.length<=140737488355328):fe l=some l:=by
 unfold fe;rw[dA (by simpa using h)]
 cases l with
 |nil=>exact Et _
 |cons a l=>rfl
theorem J1(c:bO)(h:c.data.length<=140737488355328):qG c=some c:=by
 unfold qG;rw[Uz _ h];rfl
theorem NN(d:bZ)(l:List bO)(h:∀c∈l,c.data.length<=140737488355328)(hn:l.length<=1000000000000):vC d l=some ⟨d.cZ,d.cd,d.fU,d.fT,l⟩:=by
 unfold vC;refine cu l.length (fun k=>((k:Int),d.cZ,d.cd,d.fU,d.fT,l.take k,0,0,(fun _=>0),(fun _=>0),[])) _ (fun k hk=>?_) ?_ rfl
 . unfold zV;rw[if_pos (by simp;omega)];simp only[cC hk,ae,J1 _ (h _ (az hk))];rw[dA (by simp;omega)];simp only[ae,df hk (by omega)];rw[aB hk]
 . unfold zV;rw[if_neg (by simp)];simp
theorem WB(d:bZ)(l:List bO)(h:∀c∈l,c.data.length<=140737488355328)(hn:l.length<=1000000000000):xy d l=some (d.cZ,d.cd,d.fU,d.fT,l):=by
 unfold xy;refine cu l.length (fun k=>((k:Int),d.cZ,d.cd,d.fU,d.fT,0,0,(fun _=>0),(fun _=>0),l.take k,[])) _ (fun k hk=>?_) ?_ rfl
 . unfold wW;rw[if_pos (by simp;omega)];simp only[cC hk,ae,J1 _ (h _ (az hk))];rw[dA (by simp;omega)];simp only[ae,df hk (by omega)];rw[aB hk]
 . unfold wW;rw[if_neg (by simp)];simp
theorem Ww(a b:bO):tB a b=some (decide (a=b)):=by
 unfold tB;obtain⟨a1,a2,a3,a4,a5⟩:=a;obtain⟨b1,b2,b3,b4,b5⟩:=b;simp only[bO.mk.injEq];by_cases h1:a1=b1
 . by_cases h2:a2=b2
   . by_cases h3:a3=b3
     . by_cases h4:a4=b4<;>simp[h1,h2,h3,h4]
     . simp[h1,h2,h3]
   . simp[h1,h2]
 . simp[h1]
theorem Qi{a b:List bO}(hl:a.length=b.length):(∀i,i<a.length->cat a i=cat b i)↔a=b:=by
 constructor
 . intro h;refine bN hl fun i h1 h2=>?_
   rw[<- bW h1,<- bW h2];exact h i h1
 . rintro rfl i _;rfl
theorem Z0{f:Int->Option (Int⊕Bool)}{a b:List bO}(hl:a.length=b.length)(hf:∀k:Nat,f (k:Int)=if k<a.length then some (if cat a k=cat b k then .inl ((k+1:Nat):Int)else .inr false)else some (.inr true)):Iter f 0=some (decide (a=b)):=by
 have hK:=jj (f:=f) (List.range a.length) (fun k=>decide (cat a k≠cat b k)) (fun k=>(k:Int)) (fun _=>false) true
  (fun k h hb=>by
   have hb':cat a k=cat b k:=by simpa using hb
   simp at h;rw[hf,if_pos h,if_pos hb'])
  (fun k h hb=>by
   have hb':¬ cat a k=cat b k:=by simpa using hb
   simp at h;rw[hf,if_pos h,if_neg hb'])
  (by rw[hf,if_neg (by simp)]) (s:=0) rfl
 rcases hK with⟨ha,he⟩|⟨k,h,hb,_,he⟩
 . rw[he];congr 1;symm;rw[ax];exact(Qi hl).1 fun i hi=>by simpa using ha i (List.mem_range.2 hi)
 . simp at h hb;rw[he];congr 1;symm;rw[bf];exact fun e=>hb ((Qi hl).2 e k h)
theorem NI(a b:List bO)(hn:a.length<=9223372036854775807):mV a b=some (decide (a=b)):=by
 unfold mV;by_cases hl:a.length=b.length
 . rw[if_neg (by simp;omega)];refine Z0 hl fun k=>?_
   unfold zp;by_cases hk:k<a.length
   . rw[if_pos (by omega),if_pos hk,eG default hk,eG default (show k<b.length by omega)];simp only[ae,Ww];by_cases h:cat a k=cat b k
     . rw[if_neg (by simpa using h),if_pos h,df hk hn]
     . rw[if_pos (by simpa using h),if_neg h]
   . rw[if_neg (by omega),if_neg hk]
 . rw[if_pos (by omega)];congr 1;symm;rw[bf];exact fun e=>hl (by rw[e])
theorem hash_self(f:Nat->UInt8):uM f f=true:=by unfold uM;rw[a7];intro i _;simp
end G
end Go.Proofs.YtekpafdhgkocaaaGreat
namespace Go.Proofs.YtekpafdhgkocaaaGreat
open IntKind(i64)
open G
namespace G
def zr(l:List bO)(ord:List Int):List bO:=ord.map fun x=>cat l x.toNat
section
variable {l:List bO}{ord:List Int}
theorem vH(h:Ord l ord):(zr l ord).Perm l:=by
 refine(h.perm.map _).trans ?_;have:(JM l.length).map (fun x=>cat l x.toNat)=l:=by
  refine bN (by simp[JM]) fun i h1 h2=>?_
  simp[JM,h2]
 rw[this]
theorem vG(h:Ord l ord):(zr l ord).length=l.length:=(vH h).length_eq
theorem HM(h:Ord l ord){k:Nat}(hk:k<l.length):cat (zr l ord) k=xV l ord k:=by
 have hl:=h.len;rw[bW (by rw[vG h];exact hk)];unfold zr xV;rw[List.getElem_map];simp[show k<ord.length by omega]
end
section
variable {d:bZ}{ord:List Int}
def pos(d:bZ)(ord:List Int)(k:Nat):Int:=if k<d.bP.length then(xV d.bP ord k).to else d.cd
theorem Kg(hv:VD d)(ho:Ord d.bP ord){p q:Nat}(hpq:p<q)(hq:q<d.bP.length):ed (xV d.bP ord p)<=(xV d.bP ord q).to:=by
 refine Int.not_lt.1 fun hlt=>hv.apart ?_
 have hle:=ho.le (Nat.le_of_lt hpq) hq;have gp:=hv.sD _ (ho.mem (k:=p) (by omega));have gq:=hv.sD _ (ho.mem hq);have h1:=ho.ix (k:=p) (by omega);have h2:=ho.ix hq;obtain⟨a1,a2⟩:=h1;obtain⟨b1,b2⟩:=h2;refine⟨(ord.getD p 0).toNat,(ord.getD q 0).toNat,by omega,by omega,fun e=>by have:=ho.inj (by omega) hq e;omega,?_⟩;show ov (xV d.bP ord p) (xV d.bP ord q)=true;unfold ov;rw[ax];have:=gq.qM;refine⟨?_,hlt⟩;unfold ed;omega
theorem tiled(hv:VD d)(ho:Ord d.bP ord):pos d ord 0=0/\∀k,k<d.bP.length->pos d ord (k+1)=ed (xV d.bP ord k):=by
 have hN:=hv.Yh;unfold Pd at hN;constructor
 . unfold pos;split
   . rename_i hn;have g0:=hv.sD _ (ho.mem hn);have:=g0.JY;have:=g0.qM;have:=g0.fits;refine Int.le_antisymm (Int.not_lt.1 fun hlt=>?_) (by omega);obtain⟨c,hc,h1,h2⟩:=hv.full 0 (Int.le_refl _) (by unfold ed at *; omega);obtain⟨k,hk,rfl⟩:=ho.any hc;have:=ho.le (Nat.zero_le k) hk;omega
   . rename_i hn;refine Int.le_antisymm (Int.not_lt.1 fun hlt=>?_) (by omega);obtain⟨c,hc,_⟩:=hv.full 0 (Int.le_refl _) hlt;obtain⟨k,hk,_⟩:=ho.any hc;omega
 . intro k hk;have gk:=hv.sD _ (ho.mem hk);have:=gk.JY;have:=gk.qM;have:=gk.fits;have none:¬ Ra d.bP (ed (xV d.bP ord k))->d.cd<=ed (xV d.bP ord k):=fun h=>Int.not_lt.1 fun hlt=>h (hv.full _ (by unfold ed;omega) hlt)
   have cov:Ra d.bP (ed (xV d.bP ord k))->∃q,k<q/\q<d.bP.length/\(xV d.bP ord q).to<=ed (xV d.bP ord k):=fun⟨c,hc,h1,h2⟩=>by
    obtain⟨q,hq,rfl⟩:=ho.any hc;refine⟨q,Nat.lt_of_not_le fun hle=>?_,hq,h1⟩;by_cases e:q=k
    . subst e;omega
    . have:=Kg hv ho (p:=q) (q:=k) (by omega) hk;unfold ed at *; omega
   unfold pos;split
   . rename_i hk1;refine Int.le_antisymm ?_ (Kg hv ho (Nat.lt_succ_self k) hk1);have g1:=hv.sD _ (ho.mem hk1);have h3:=Kg hv ho (Nat.lt_succ_self k) hk1;have h4:=g1.fits;have h5:=g1.qM;by_cases hc:Ra d.bP (ed (xV d.bP ord k))
     . obtain⟨q,h6,h7,h8⟩:=cov hc;exact Int.le_trans (ho.le h6 h7) h8
     . have:=none hc;unfold ed at h4;omega
   . rename_i hk1;refine Int.le_antisymm ?_ gk.fits;refine none fun hc=>?_
     obtain⟨q,h6,h7,_⟩:=cov hc;omega
def yU(f:bO->Int):List bO->Int
 |[]=>0
 |c::l=>f c+yU f l
theorem yV(f:bO->Int):∀a b:List bO,yU f (a++b)=yU f a+yU f b
 |[],b=>by simp[yU]
 |c::a,b=>by simp only[bD,yU,yV f a b];omega
theorem Q4(f:bO->Int){a b:List bO}(h:a.Perm b):yU f a=yU f b:=by
 induction h with
 |nil=>rfl
 |cons x _ ih=>simp only[yU,ih]
 |swap x y l=>simp only[yU];omega
 |trans _ _ h1 h2=>rw[h1,h2]
theorem BR(f:bO->Int):∀l:List bO,(∀c∈l,0<=f c)->0<=yU f l
 |[],_=>Int.le_refl _
 |c::l,h=>by have:=h c (by simp);have:=BR f l (fun x hx=>h x (by simp[hx]));simp only[yU];omega
theorem YU(f:bO->Int)(l:List bO)(h:∀c∈l,0<=f c)(k:Nat):0<=yU f (l.take k)/\yU f (l.take k)<=yU f l:=by
 have h1:=BR f (l.take k) fun c hc=>h c (List.mem_of_mem_take hc)
 have h2:=BR f (l.drop k) fun c hc=>h c (List.mem_of_mem_drop hc)
 have h3:=yV f (l.take k) (l.drop k);rw[List.take_append_drop]at h3;omega
theorem LZ(f:bO->Int)(l:List bO){k:Nat}(hk:k<l.length):yU f (l.take (k+1))=yU f (l.take k)+f l[k]:=by
 rw[aB hk,yV];simp[yU]
theorem V3(hv:VD d)(hn:d.bP.length<=17592186044416):yU eD d.bP=d.cd:=by
 obtain⟨ord,ho⟩:=XZ d.bP;obtain⟨h0,h1⟩:=tiled hv ho;have hl:=vG ho;rw[<- Q4 eD (vH ho)];have key:∀k,k<=d.bP.length->yU eD ((zr d.bP ord).take k)=pos d ord k:=by
  intro k
  induction k with
  |zero=>intro _;rw[h0];rfl
  |succ k ih=>
   intro hk
   have hp:=ih (by omega)
   rw[LZ eD _ (by omega),hp,h1 k hk,<- bW (by omega),HM ho hk]
   unfold pos ed
   rw[if_pos (show k<d.bP.length by omega)]
 have:=key d.bP.length (Nat.le_refl _);rw[bF (by omega)]at this;rw[this];unfold pos;rw[if_neg (by omega)]
theorem SN(ho:Ord d.bP ord)(hn:d.bP.length<=1000000000000):jE ord d.bP d []=some (d,zr d.bP ord):=by
 have hl:=ho.len;unfold jE;refine cu (f:=gZ ord d.bP) ord.length (fun k=>((k:Int),d,(zr d.bP ord).take k)) _ (fun k hk=>?step) ?fin rfl
 case step=>
  unfold gZ zU
  have hix:=ho.ix (k:=k) (by omega)
  obtain⟨h1,h2⟩:=hix
  rw[if_pos (by simp;omega)]
  simp only[eG (0:Int) hk,ae]
  rw[xY (k:=(ord.getD k 0).toNat) default (by omega) (by omega)]
  simp only[ae,vx]
  rw[dA (by have:=vG ho;simp;omega)]
  simp only[ae,df hk (by omega)]
  rw[aB (by rw[vG ho];omega),<- bW,HM ho (by omega)]
  rfl
 case fin=>
  unfold gZ
  rw[if_neg (by simp)]
  simp only
  rw[bF (by rw[vG ho];omega)]
theorem qO(ho:Ord d.bP ord)(hs:pZ d.bP=some (d.bP,ord))(hd:∀c∈d.bP,c.data.length<=140737488355328)(hn:d.bP.length<=1000000000000):
 yk d=some ⟨d.cZ,d.cd,d.fU,d.fT,zr d.bP ord⟩:=by
 unfold yk
 rw[hs]
 simp only[ae,SN ho hn]
 rw[NN d _ (fun c hc=>hd c ((vH ho).mem_iff.1 hc)) (by rw[vG ho];exact hn)]
 rfl
theorem EW(l:List bO)(hn:l.length<=1000000000000):∃S,nB l=some S/\S.Perm l/\S.Pairwise fun a b=>a.to<=b.to:=by
 unfold nB;refine cn (f:=tK l) (fun m st=>∃(k:Nat) (S:List bO),st=(S,(k:Int))/\m=l.length-k/\k<=l.length/\S.Perm (l.take k)/\S.Pairwise fun a b=>a.to<=b.to)
  (fun S=>S.Perm l/\S.Pairwise fun a b=>a.to<=b.to) ?_ l.length _ ⟨0,[],rfl,rfl,Nat.zero_le _,by simp,.nil⟩
 rintro m st ⟨k,S,rfl,rfl,hk,hp,hs⟩;have hl:=hp.length_eq;rw[aJ,Nat.min_eq_left hk]at hl;unfold tK;by_cases hlt:k<l.length
 . left;rw[if_pos (show(S,(k:Int)).2<(l.length:Int)by simp;omega)];obtain⟨r,hr,j,rfl,hj1,hj2,hj3⟩:=cn (f:=tL l (S,(k:Int)))
    (fun m st=>∃j:Nat,st=(j:Int)/\m=j/\j<=S.length/\∀i,j<=i->i<S.length->(cat l k).to<(cat S i).to)
    (fun r=>∃j:Nat,r=(j:Int)/\j<=S.length/\(∀i,j<=i->i<S.length->(cat l k).to<(cat S i).to)/\∀i,i<j->(cat S i).to<=(cat l k).to) (by
     rintro m st ⟨j,rfl,hmj,hj,hgt⟩;unfold tL;by_cases h0:j>0
     . have e1:i64.wrap ((j:Int)-1)=((j-1:Nat):Int):=by rw[fm (by omega) (by omega)];omega
       rw[if_pos (by omega),e1];simp only[eG default (show j-1<S.length by omega),eG default hlt,ae,ax];by_cases hc:(cat S (j-1)).to>(cat l k).to
       . left;rw[if_pos hc];refine⟨j-1,_,rfl,by omega,j-1,rfl,rfl,by omega,fun i h1 h2=>?_⟩;by_cases e:i=j-1
         . subst e;exact hc
         . exact hgt i (by omega) h2
       . right;rw[if_neg hc];refine⟨_,rfl,j,rfl,hj,hgt,fun i hi=>?_⟩;by_cases e:i=j-1
         . subst e;omega
         . have:=aQ.1 hs i (j-1) (by omega) (by omega) (by omega);rw[<- bW,<- bW]at this;omega
     . right;rw[if_neg (by omega)];simp only[ae,aM,if_false];exact⟨_,rfl,j,rfl,hj,hgt,fun i hi=>by omega⟩) S.length (S.length:Int) ⟨S.length,rfl,rfl,Nat.le_refl _,fun i h1 h2=>by omega⟩
   have e0:(S.length:Int)=((S,(k:Int)).1.length:Int):=rfl;rw[<- e0,hr];simp only[ae];rw[AM (by omega),E1 (by omega)];simp only[ae,eG default hlt,aP];rw[dA (by simp;omega)];simp only[ae];rw[dA (by simp;omega)];simp only[ae];rw[dA (by simp;omega)];simp only[ae,df hlt (by omega),aY];refine⟨l.length-(k+1),_,rfl,by omega,k+1,S.take j++[cat l k]++S.drop j,rfl,rfl,by omega,?_,?_⟩
   . rw[aB hlt,<- bW];have h1:(S.take j++[cat l k]++S.drop j).Perm (S++[cat l k]):=by
      have e:S++[cat l k]=S.take j++(S.drop j++[cat l k]):=by rw[<- aA,List.take_append_drop]
      rw[e,aA];exact List.perm_append_comm.append_left _
     exact h1.trans (hp.append_right _)
   . rw[List.pairwise_append,List.pairwise_append];refine⟨⟨hs.sublist (List.take_sublist _ _),by simp,fun a ha b hb=>?_⟩,hs.sublist (List.drop_sublist _ _),fun a ha b hb=>?_⟩
     . simp at hb;subst hb;obtain⟨i,hi,rfl⟩:=List.mem_take_iff_getElem.1 ha;rw[<- bW];exact hj3 i (by omega)
     . obtain⟨i,hi,rfl⟩:=List.mem_drop_iff_getElem.1 hb;rw[<- bW];have h1:=hj2 (j+i) (by omega) (by omega);rcases aL.1 ha with ha|ha
       . obtain⟨q,hq,rfl⟩:=List.mem_take_iff_getElem.1 ha;have h2:=hj3 q (by omega);rw[<- bW];omega
       . rw[List.mem_singleton]at ha;subst ha;exact Int.le_of_lt h1
 . right;rw[if_neg (show ¬ (S,(k:Int)).2<(l.length:Int)by simp;omega)];have:k=l.length:=by omega
   subst this;rw[bh]at hp;exact⟨_,rfl,hp,hs⟩
theorem tj:∀(A B:List bO),A.Perm B->(A.Pairwise fun a b=>a.to<=b.to)->(B.Pairwise fun a b=>a.to<=b.to)->(∀a∈A,∀b∈A,a.to=b.to->a=b)->A=B
 |[],B,hp,_,_,_=>(List.nil_perm.1 hp).symm
 |a::A,[],hp,_,_,_=>absurd hp.length_eq (by simp)
 |a::A,b::B,hp,ha,hb,hu=>by
  have h1:a∈b::B:=hp.mem_iff.1 (by simp);have h2:b∈a::A:=hp.mem_iff.2 (by simp);have k1:a.to<=b.to:=by
   rcases aV.1 h2 with e|e
   . rw[e];exact Int.le_refl _
   . exact(List.pairwise_cons.1 ha).1 b e
  have k2:b.to<=a.to:=by
   rcases aV.1 h1 with e|e
   . rw[e];exact Int.le_refl _
   . exact(List.pairwise_cons.1 hb).1 a e
  have e:a=b:=hu a (by simp) b h2 (by omega);subst e;rw[tj A B (List.Perm.cons_inv hp) (List.pairwise_cons.1 ha).2 (List.pairwise_cons.1 hb).2 fun x hx y hy=>hu x (by simp[hx]) y (by simp[hy])]
theorem SV(hv:VD d):∀a∈d.bP,∀b∈d.bP,a.to=b.to->a=b:=fun a ha b hb e=>by
 obtain⟨i,hi,rfl⟩:=JQ ha;obtain⟨j,hj,rfl⟩:=JQ hb;by_cases hij:i=j
 . rw[hij]
 . refine absurd ⟨i,j,hi,hj,hij,?_⟩ hv.apart;have:=(hv.sD _ ha).qM;have:=(hv.sD _ hb).qM;unfold ov ed;rw[ax];omega
theorem W7{d:bZ}{c:bO}(h:Good d c)(L:List bO):Good ⟨d.cZ,d.cd,d.fU,d.fT,L⟩ c:=⟨h.JY,h.qM,h.fits,h.max,h.copy,h.lit⟩
end
end G
end Go.Proofs.YtekpafdhgkocaaaGreat
namespace Go.Proofs.YtekpafdhgkocaaaGreat
open IntKind(i64)
open G
namespace G
abbrev Wr:=Int⊕UInt8
def exp(c:bO):List Wr:=if c.kind=1 then(List.range c.len.toNat).map (fun k:Nat=>.inl (c.cp+(k:Int)))else c.data.map .inr
def Va(l:List bO):List Wr:=l.flatMap exp
structure I3(c:bO):Prop where
 qM:1<=eD c
 copy:c.kind=1->c.data=[]
 lit:c.kind≠1->c.kind=2/\c.cp=0/\c.len=0
theorem Good.nice{d:bZ}{c:bO}(h:Good d c):I3 c:=⟨h.qM,fun hk=>(h.copy hk).2.2.2.2,h.lit⟩
theorem yd{c:bO}(h:c.kind=1):eD c=c.len:=by unfold eD;rw[if_pos h]
theorem GL{c:bO}(h:c.kind≠1):eD c=(c.data.length:Int):=by unfold eD;rw[if_neg h]
theorem PX{c:bO}(h:c.kind=1):exp c=(List.range c.len.toNat).map (fun k:Nat=>.inl (c.cp+(k:Int))):=by unfold exp;rw[if_pos h]
theorem Tx{c:bO}(h:c.kind≠1):exp c=c.data.map .inr:=by unfold exp;rw[if_neg h]
theorem Oj{c:bO}(h:I3 c):((exp c).length:Int)=eD c:=by
 by_cases hk:c.kind=1
 . have:=h.qM;rw[yd hk]at this ⊢; rw[PX hk];simp;omega
 . rw[GL hk,Tx hk];simp
section
variable {x y:bO}{l L:List bO}
def Wz(a:Int):List bO->Int->Prop
 |[],b=>a=b
 |c::l,b=>c.to=a/\Wz (ed c) l b
def one(a:Int):Wr->bO
 |.inl k=>⟨1,a,k,1,[]⟩
 |.inr b=>⟨2,a,0,0,[b]⟩
end
end G
end Go.Proofs.YtekpafdhgkocaaaGreat
namespace Go.Proofs.YtekpafdhgkocaaaGreat
open IntKind(i64)
open G
namespace G
structure Fit(N M:Int)(c:bO):Prop where
 nice:I3 c
 JY:0<=c.to
 fits:ed c<=N
 src:c.kind=1->0<=c.cp/\c.cp+c.len<=M
theorem Good.fit{d:bZ}{c:bO}(h:Good d c):Fit d.cd d.cZ c:=⟨h.nice,h.JY,h.fits,fun hk=>⟨(h.copy hk).1,(h.copy hk).2.2.1⟩⟩
section
variable {N M:Int}{a b c:bO}
theorem Fit.data(ha:Fit N M a)(hN:N<=1000000):a.data.length<=1000000:=by
 by_cases hk:a.kind=1
 . rw[ha.nice.copy hk];simp
 . have:=ha.fits;have:=ha.JY;unfold ed at *; rw[GL hk]at *; omega
theorem UB(l:List (List UInt8))(h:l.flatten.length<=100000000)(hn:l.length<=1000):lI l=some l.flatten:=by
 have hpre:∀k,(l.take k).flatten.length<=l.flatten.length:=fun k=>by
  conv=>rhs;rw[<- List.take_append_drop k l]
  rw[bj,ak];omega
 have hsucc:∀k (hk:k<l.length),(l.take (k+1)).flatten=(l.take k).flatten++l[k]:=fun k hk=>by
  rw[aB hk,bj];simp
 unfold lI;rw[cu (f:=jd l) l.length (fun k=>(((l.take k).flatten.length:Int),(k:Int))) (l.flatten.length:Int) (fun k hk=>?s1) ?f1 (s:=(0,0)) rfl]
 . simp only[ae];have hg:jf (l.flatten.length:Int)=some []:=by
    unfold jf;rw[if_neg (by omega),fm (x:=(0:Int)-0) (by omega) (by omega),fm (by omega) (by omega)];by_cases h0:(l.flatten.length:Int)-(0-0)>0
    . rw[if_pos h0,mR (by omega)];rfl
    . rw[if_neg h0]
   rw[hg];simp only[ae];rw[cu (f:=je l) l.length (fun k=>((l.take k).flatten,(k:Int))) l.flatten (fun k hk=>?s2) ?f2 (s:=([],0)) rfl]
   case s2=>
    unfold je
    rw[if_pos (by simp;omega)]
    have:=hpre (k+1);rw[hsucc k hk,ak]at this
    simp only[cC hk,ae,df hk (by omega)]
    rw[dA (by omega)]
    simp only[ae,hsucc k hk]
   case f2=>
    unfold je
    rw[if_neg (by simp)];simp
 case s1=>
  unfold jd
  rw[if_pos (by simp;omega)]
  have:=hpre (k+1);rw[hsucc k hk,ak]at this
  simp only[cC hk,ae,df hk (by omega)]
  rw[fm (by omega) (by omega),if_neg (by omega),hsucc k hk,ak]
  congr 4
 case f1=>
  unfold jd
  rw[if_neg (by simp)];simp
theorem Ro(t:Int)(l:List (List UInt8))(h:l.flatten.length<=100000000)(hn:l.length<=1000):tu t l=some ⟨2,t,0,0,l.flatten⟩:=by
 unfold tu;rw[UB l h hn];rfl
theorem G1(c:bO):dU c=some (if c.kind=1 then(⟨c.cp,c.len⟩,true)else(⟨0,0⟩,false)):=by
 unfold dU;by_cases h:c.kind=1<;>simp[h]
end
end G
end Go.Proofs.YtekpafdhgkocaaaGreat
namespace Go.Proofs.YtekpafdhgkocaaaGreat
open IntKind(i64)
open G
namespace G
section
variable {N M:Int}{l:List bO}
theorem drop_cons{α:Type}{l:List α}{i:Nat}(h:i<l.length):l.drop i=l[i]::l.drop (i+1):=by rw[bq h]
end
end G
end Go.Proofs.YtekpafdhgkocaaaGreat
namespace Go.Proofs.YtekpafdhgkocaaaGreat
open IntKind(i64)
open G
namespace G
section
variable {d:bZ}{ord:List Int}
theorem YR(hv:VD d)(ho:Ord d.bP ord):Wz 0 (zr d.bP ord) d.cd:=by
 obtain⟨h0,h1⟩:=tiled hv ho;have hl:=vG ho;have key:∀m k,k+m=d.bP.length->Wz (pos d ord k) ((zr d.bP ord).drop k) d.cd:=by
  intro m
  induction m with
  |zero=>
   intro k hk
   rw[List.drop_of_length_le (by omega)]
   show pos d ord k=d.cd
   unfold pos;rw[if_neg (by omega)]
  |succ m ih=>
   intro k hk
   have hk':k<(zr d.bP ord).length:=by omega
   rw[drop_cons hk',<- bW hk',HM ho (by omega)]
   refine⟨?_,?_⟩
   . unfold pos;rw[if_pos (by omega)]
   . rw[<- h1 k (by omega)];exact ih (k+1) (by omega)
 have:=key d.bP.length 0 (by omega);rw[h0]at this;simpa using this
end
theorem SU:∀{l:List bO} {a b:Int},(∀c∈l,I3 c)->Wz a l b->a<=b/\∀c∈l,a<=c.to/\ed c<=b
 |[],a,b,_,h=>⟨Int.le_of_eq h,fun c hc=>by cases hc⟩
 |x::l,a,b,hn,⟨h1,h2⟩=>by
  obtain⟨h3,h4⟩:=SU (fun c hc=>hn c (by simp[hc])) h2;have hx:=(hn x (by simp)).qM;have ht:ed x=x.to+eD x:=rfl;refine⟨by omega,fun c hc=>?_⟩;rcases aV.1 hc with rfl|hc
  . exact⟨by omega,h3⟩
  . have:=h4 c hc;exact⟨by omega,this.2⟩
theorem O6:∀{l:List bO} {a b:Int},(∀c∈l,I3 c)->Wz a l b->l.Pairwise fun x y=>ed x<=y.to
 |[],_,_,_,_=>.nil
 |x::l,a,b,hn,⟨h1,h2⟩=>by
  have hn':=fun c hc=>hn c (aD x hc)
  exact .cons (fun y hy=>((SU hn' h2).2 y hy).1) (O6 hn' h2)
structure Sm(d:bZ)(S:List bO):Prop where
 vd:VD d
 len:d.bP.length<=1000
 new:d.cd<=3000
 perm:S.Perm d.bP
 til:Wz 0 S d.cd
section
variable {d:bZ}{S:List bO}
theorem Sm.fit(h:Sm d S):∀c∈S,Fit d.cd d.cZ c:=fun c hc=>(h.vd.sD c (h.perm.mem_iff.1 hc)).fit
theorem Sm.nice(h:Sm d S):∀c∈S,I3 c:=fun c hc=>(h.fit c hc).nice
theorem Sm.Yh(h:Sm d S):d.cd<=1000000/\d.cZ<=4611686018427387903:=⟨by have:=h.new;omega,h.vd.Yh.2.1⟩
theorem Sm.aeb(h:Sm d S):S.length<=1000:=by rw[h.perm.length_eq];exact h.len
theorem Sm.data(h:Sm d S):∀c∈d.bP,c.data.length<=140737488355328:=fun c hc=>by
 have:=(h.vd.sD c hc).fit.data h.Yh.1;omega
theorem Sm.pw(h:Sm d S):S.Pairwise fun a b=>a.to<=b.to:=by
 refine(aQ).2 fun i j hi hj hij=>?_
 have h1:=aQ.1 (O6 h.nice h.til) i j hi hj hij;have h2:=(h.nice _ (az hi)).qM;unfold ed at h1;omega
theorem Sm.inj(h:Sm d S):∀a∈S,∀b∈S,a.to=b.to->a=b:=fun a ha b hb e=>SV h.vd a (h.perm.mem_iff.1 ha) b (h.perm.mem_iff.1 hb) e
theorem Sm.ord(h:Sm d S):∃ord,Ord d.bP ord/\pZ d.bP=some (d.bP,ord)/\zr d.bP ord=S:=by
 obtain⟨ord,hs,hp,hsr⟩:=ND (l:=d.bP) (by have:=h.len;omega);have ho:Ord d.bP ord:=⟨hp,hsr⟩;refine⟨ord,ho,hs,?_⟩;refine(tj S _ (h.perm.trans (vH ho).symm) h.pw ?_ h.inj).symm;have ht:=YR h.vd ho;have hn:∀c∈zr d.bP ord,I3 c:=fun c hc=>(h.vd.sD c ((vH ho).mem_iff.1 hc)).nice
 refine(aQ).2 fun i j hi hj hij=>?_
 have h1:=aQ.1 (O6 hn ht) i j hi hj hij;have h2:=(hn _ (az hi)).qM;unfold ed at h1;omega
theorem Sm.sort(h:Sm d S):yk d=some ⟨d.cZ,d.cd,d.fU,d.fT,S⟩:=by
 obtain⟨ord,ho,hs,rfl⟩:=h.ord;exact qO ho hs h.data (by have:=h.len;omega)
theorem aa7(hv:VD d)(h1:d.bP.length<=1000)(h2:d.cd<=3000):∃S,Sm d S:=by
 obtain⟨ord,ho⟩:=XZ d.bP;exact⟨zr d.bP ord,hv,h1,h2,vH ho,YR hv ho⟩
theorem Wx(d:bZ)(hn:d.bP.length<=9223372036854775807):∃b,rZ d=some b/\(b=true->∃S,Sm d S):=by
 unfold rZ;rw[Ze d hn];simp only[ae];by_cases hf:W1 d=true
 . rw[if_pos hf];obtain⟨h1,h2⟩:=W2.1 hf;by_cases hk:d.cd<=1000
   . rw[if_pos hk];obtain⟨b,h3,h4⟩:=Ru (d:=d) (by omega);rw[h3];exact⟨b,rfl,fun hb=>aa7 (h4.1 hb) (by omega) (by omega)⟩
   . rw[if_neg hk];exact⟨false,rfl,fun h=>by cases h⟩
 . rw[if_neg hf];exact⟨false,rfl,fun h=>by cases h⟩
end
end G
namespace G
theorem Uo:∀{l:List bO} {a b:Int},(∀c∈l,I3 c)->Wz a l b->((Va l).length:Int)=b-a
 |[],a,b,_,h=>by have h:a=b:=h;subst h;show((0:Nat):Int)=_;omega
 |x::l,a,b,hn,⟨h1,h2⟩=>by
  have ih:=Uo (fun c hc=>hn c (aD x hc)) h2;have hx:=Oj (hn x (by simp));show((exp x++Va l).length:Int)=_;rw[ak];have:ed x=x.to+eD x:=rfl;omega
theorem YQ:∀{l:List bO} {a b o:Int} {c:bO},(∀c∈l,I3 c)->Wz a l b->c∈l->c.to<=o->o<ed c->(Va l)[(o-a).toNat]?=(exp c)[(o-c.to).toNat]?
 |x::l,a,b,o,c,hn,⟨h1,h2⟩,hc,h3,h4=>by
  have hx:=Oj (hn x (by simp));have te:ed x=x.to+eD x:=rfl;have hn':=fun c hc=>hn c (aD x hc)
  show(exp x++Va l)[(o-a).toNat]?=_;rcases aV.1 hc with rfl|hc
  . rw[List.getElem?_append_left (by omega),h1]
  . have h5:=((SU hn' h2).2 c hc).1;have h6:=(hn x (by simp)).qM;rw[List.getElem?_append_right (by omega),<- YQ hn' h2 hc h3 h4];congr 1;omega
end G
end Go.Proofs.YtekpafdhgkocaaaGreat
namespace Go.Proofs.YtekpafdhgkocaaaGreat
open IntKind(i64)
open G
namespace G
def rd(a0:List UInt8):Wr->UInt8
 |.inl k=>a0.getD k.toNat 0
 |.inr b=>b
def BZ(a0:List UInt8)(c:bO):List UInt8:=(exp c).map (rd a0)
def file(a0:List UInt8)(S:List bO):List UInt8:=(Va S).map (rd a0)
section
variable {d:bZ}{S:List bO}{a0:List UInt8}
theorem Kq{c:bO}(h:I3 c):((BZ a0 c).length:Int)=eD c:=by unfold BZ;rw[aI];exact Oj h
theorem MG{c:bO}(hk:c.kind=1)(h0:0<=c.cp)(h1:0<=c.len)(h2:c.cp+c.len<=(a0.length:Int)):BZ a0 c=(a0.take (c.cp+c.len).toNat).drop c.cp.toNat:=by
 unfold BZ;rw[PX hk,List.map_map];refine bN (by simp only[aI,List.length_range,bg,aJ];omega) fun i h3 h4=>?_
 simp only[aI,List.length_range]at h3;simp only[List.getElem_map,List.getElem_range,List.getElem_drop,List.getElem_take,Function.comp_apply,rd];rw[show(c.cp+(i:Int)).toNat=c.cp.toNat+i by omega,List.getD_eq_getElem?_getD,List.getElem?_eq_getElem (by omega)];rfl
theorem PI{c:bO}(hk:c.kind≠1):BZ a0 c=c.data:=by
 unfold BZ;rw[Tx hk,List.map_map];have:rd a0 ∘ Sum.inr=id:=by funext b;rfl
 rw[this,List.map_id]
theorem RF{c:bO}{N M:Int}(h:Fit N M c)(hM:M<=(a0.length:Int))(hl:a0.length<=1000000):wg a0 c=some (BZ a0 c):=by
 unfold wg;rw[G1];by_cases hk:c.kind=1
 . have hs:=h.src hk;have hn:=h.nice.qM;rw[yd hk]at hn;simp only[if_pos hk,ae,if_true];rw[fm (by omega) (by omega),NA (by omega),MG hk hs.1 (by omega) (by omega)];rfl
 . simp only[if_neg hk,ae,aM,if_false];rw[PI hk]
theorem Tz{o:Int}{c:bO}(h:Sm d S)(hc:c∈S)(h1:c.to<=o)(h2:o<ed c):(file a0 S)[o.toNat]?=(BZ a0 c)[(o-c.to).toNat]?:=by
 unfold file BZ;have:=YQ h.nice h.til hc h1 h2;rw[Int.sub_zero]at this;rw[List.getElem?_map,List.getElem?_map,this]
theorem F0(h:Sm d S):((file a0 S).length:Int)=d.cd:=by
 unfold file;rw[aI,Uo h.nice h.til];omega
end
end G
end Go.Proofs.YtekpafdhgkocaaaGreat
namespace Go.Proofs.YtekpafdhgkocaaaGreat
open IntKind(i64)
open G
namespace G
def Vk(a0:List UInt8)(c:bO):bO:=⟨2,c.to,0,0,BZ a0 c⟩
def oi(a0:List UInt8)(a2:List Int)(i:Nat)(c:bO):bO:=if c.kind=1/\(i:Int)∈a2 then Vk a0 c else c
def jW(a0:List UInt8)(a2:List Int)(l:List bO):List bO:=l.mapIdx (oi a0 a2)
section
variable {d:bZ}{S:List bO}{a0:List UInt8}{a2:List Int}
theorem zA(i:Nat)(c:bO):(oi a0 a2 i c).to=c.to:=by unfold oi;split<;>rfl
theorem Vl{c:bO}(h:I3 c):eD (Vk a0 c)=eD c:=by
 rw[GL (by simp[Vk])];exact Kq h
theorem HZ(i:Nat){c:bO}(h:I3 c):eD (oi a0 a2 i c)=eD c:=by
 unfold oi;split
 . exact Vl h
 . rfl
theorem VG(i:Nat)(c:bO):BZ a0 (oi a0 a2 i c)=BZ a0 c:=by
 unfold oi;split
 . rw[PI (by simp[Vk])];rfl
 . rfl
theorem jJ(l:List bO):(jW a0 a2 l).length=l.length:=by unfold jW;simp
theorem yy(l:List bO){i:Nat}(h:i<l.length)(h':i<(jW a0 a2 l).length):(jW a0 a2 l)[i]=oi a0 a2 i l[i]:=List.getElem_mapIdx
theorem TS(h:Sm d S):VD ⟨d.cZ,d.cd,d.fU,d.fT,jW a0 a2 d.bP⟩:=by
 have hR:=h.vd.Yh;have gd:∀i (hi:i<d.bP.length),Fit d.cd d.cZ d.bP[i]:=fun i hi=>h.fit _ (h.perm.mem_iff.2 (az hi))
 have te:∀i (hi:i<d.bP.length),ed (oi a0 a2 i d.bP[i])=ed d.bP[i]:=fun i hi=>by
  unfold ed;rw[zA,HZ i (gd i hi).nice]
 refine⟨hR,fun c hc=>?_,?_,fun o h1 h2=>?_⟩
 . obtain⟨i,hi,rfl⟩:=bC.1 hc;have hi':i<d.bP.length:=by rw[<- jJ (a0:=a0) (a2:=a2) d.bP];exact hi
   have e:=yy (a0:=a0) (a2:=a2) d.bP hi' hi;show Good _ (jW a0 a2 d.bP)[i];rw[e];have g:=h.vd.sD _ (az hi');refine⟨by rw[zA];exact g.JY,by rw[HZ i (gd i hi').nice];exact g.qM,by rw[te i hi'];exact g.fits,by rw[te i hi'];exact g.max,fun hk=>?_,fun hk=>?_⟩
   . unfold oi at hk ⊢;split at hk
     . simp[Vk]at hk
     . rename_i hn;rw[if_neg hn];exact g.copy hk
   . unfold oi at hk ⊢;split at hk
     . rename_i hp;rw[if_pos hp];exact⟨rfl,rfl,rfl⟩
     . rename_i hn;rw[if_neg hn];exact g.lit hk
 . rintro⟨i,j,hi,hj,hne,hov⟩;change i<(jW a0 a2 d.bP).length at hi;change j<(jW a0 a2 d.bP).length at hj;change ov (cat (jW a0 a2 d.bP) i) (cat (jW a0 a2 d.bP) j)=true at hov;have hi':i<d.bP.length:=by rw[jJ]at hi;exact hi
   have hj':j<d.bP.length:=by rw[jJ]at hj;exact hj
   rw[bW hi,bW hj,yy d.bP hi' hi,yy d.bP hj' hj]at hov;refine h.vd.apart ⟨i,j,hi',hj',hne,?_⟩;rw[bW hi',bW hj'];unfold ov at hov ⊢;rw[te i hi',te j hj',zA,zA]at hov;exact hov
 . obtain⟨c,hc,h3⟩:=h.vd.full o h1 h2;obtain⟨i,hi,rfl⟩:=bC.1 hc;have hi':i<(jW a0 a2 d.bP).length:=by rw[jJ];exact hi
   refine⟨(jW a0 a2 d.bP)[i],az hi',?_⟩;rw[yy d.bP hi hi',te i hi,zA];exact h3
theorem ZZ(h:Sm d S):∃S',Sm ⟨d.cZ,d.cd,d.fU,d.fT,jW a0 a2 d.bP⟩ S'/\file a0 S'=file a0 S:=by
 obtain⟨S',hS'⟩:=aa7 (TS (a0:=a0) (a2:=a2) h) (by show(jW a0 a2 d.bP).length<=1000;rw[jJ];exact h.len) h.new;refine⟨S',hS',List.ext_getElem? fun j=>?_⟩;have l1:=F0 (a0:=a0) h;have l2:((file a0 S').length:Int)=d.cd:=F0 (a0:=a0) (d:=⟨d.cZ,d.cd,d.fU,d.fT,jW a0 a2 d.bP⟩) hS';by_cases hj:(j:Int)<d.cd
 . obtain⟨c,hc,h1,h2⟩:=h.vd.full (j:Int) (by omega) hj;have e1:=Tz (a0:=a0) h (h.perm.mem_iff.2 hc) h1 h2;obtain⟨i,hi,rfl⟩:=bC.1 hc;have hi':i<(jW a0 a2 d.bP).length:=by rw[jJ];exact hi
   have hn:=(h.fit _ (h.perm.mem_iff.2 (az hi))).nice;have hm:(jW a0 a2 d.bP)[i]∈S':=hS'.perm.mem_iff.2 (az hi');have ep:=yy (a0:=a0) (a2:=a2) d.bP hi hi';have e2:=Tz (a0:=a0) (o:=(j:Int)) hS' hm (by rw[ep,zA];exact h1) (by rw[ep];unfold ed;rw[zA,HZ i hn];exact h2);rw[aP]at e1 e2;rw[e1,e2,ep,VG,zA]
 . rw[List.getElem?_eq_none (by omega),List.getElem?_eq_none (by omega)]
theorem rN(l:List Int)(x:Int)(hn:l.length<=9000000000000000000):dI l x=some (decide (x∈l)):=by
 unfold dI ru;have hK:=jj (f:=ij l x) l (fun c=>decide (x=c)) (fun k=>(k:Int)) (fun k=>(k:Int)) (-1)
  (fun k h hb=>by
   unfold ij;rw[if_pos (by omega),cC h];simp only[ae];rw[if_neg (of_decide_eq_false hb),df h (by omega)])
  (fun k h hb=>by
   unfold ij;rw[if_pos (by omega),cC h];simp only[ae];rw[if_pos (aF hb)])
  (by unfold ij;rw[if_neg (by omega)]) (s:=0) rfl
 rcases hK with⟨ha,he⟩|⟨k,h,hb,_,he⟩
 . rw[he];simp only[ae];congr 1;rw[bp];exact⟨fun h=>by omega,fun h=>absurd rfl (of_decide_eq_false (ha x h))⟩
 . rw[he];simp only[ae];congr 1;rw[bp];exact⟨fun _=>by rw[aF hb];exact az h,fun _=>by omega⟩
theorem Yd(l:List Int)(x:Int)(hn:l.length<=9000000000000000000):sV x l=some (decide (x∈l)):=by
 unfold sV;have hK:=jj (f:=pa x l) l (fun c=>decide (c=x)) (fun k=>(k:Int)) (fun _=>true) false
  (fun k h hb=>by
   unfold pa;rw[if_pos (by omega),cC h];simp only[ae];rw[if_neg (of_decide_eq_false hb),df h (by omega)])
  (fun k h hb=>by
   unfold pa;rw[if_pos (by omega),cC h];simp only[ae];rw[if_pos (aF hb)])
  (by unfold pa;rw[if_neg (by omega)]) (s:=0) rfl
 rcases hK with⟨ha,he⟩|⟨k,h,hb,_,he⟩
 . rw[he];congr 1;symm;rw[bf];exact fun h=>absurd rfl (of_decide_eq_false (ha x h))
 . rw[he];congr 1;symm;rw[ax];rw[<- aF hb];exact az h
theorem QU{c:bO}{N M:Int}(h:Fit N M c)(hk:c.kind=1)(hM:M<=(a0.length:Int))(hl:a0.length<=1000000):yG a0 c.cp (i64.wrap (c.cp+c.len))=some (BZ a0 c):=by
 have hs:=h.src hk;have hn:=h.nice.qM;rw[yd hk]at hn;rw[fm (by omega) (by omega),NA (by omega),MG hk hs.1 (by omega) (by omega)]
theorem Dq(l:List bO){k:Nat}(hk:k<l.length):(jW a0 a2 l).take (k+1)=(jW a0 a2 l).take k++[oi a0 a2 k l[k]]:=by
 rw[aB (by rw[jJ];exact hk),yy l hk]
theorem Xq(l:List bO){k:Nat}(hk:k<l.length):((jW a0 a2 l).take k++l.drop k).set k (oi a0 a2 k l[k])=(jW a0 a2 l).take (k+1)++l.drop (k+1):=by
 have hl:((jW a0 a2 l).take k).length=k:=by rw[aJ,jJ];omega
 rw[List.set_append_right _ _ (by omega),hl,Nat.sub_self,bq hk,List.set_cons_zero,Dq l hk,aA];rfl
end
end G
end Go.Proofs.YtekpafdhgkocaaaGreat
namespace Go.Proofs.YtekpafdhgkocaaaGreat
open IntKind(i64)
open G
namespace G
def dM:bZ:=⟨4611686018427387903,4611686018427387903,fun _=>0,fun _=>0,[]⟩
structure Rt(l:List bO):Prop where
 len:l.length<=30
 sD:∀c∈l,Good dM c
 data:∀c∈l,c.data.length<=3000
 apart:∀i,i<l.length->QB l i=false
section
variable {l:List bO}
def F6(c j:bO):Bool:=decide (c.kind=1/\c.cp<ed j/\j.to<c.cp+c.len)
def Y8(l:List bO)(i:Nat):Bool:=(l.take i).any (F6 (cat l i))
def acT(l:List bO)(r:Int):Prop:=((∀i,i<l.length->Y8 l i=false)/\r=(l.length:Int))\/∃k,k<l.length/\Y8 l k=true/\(∀j,j<k->Y8 l j=false)/\r=(k:Int)
theorem Ws{a b:cc}(ha:0<=a.off/\1<=a.len/\a.off+a.len<=4611686018427387903)(hb:0<=b.off/\1<=b.len/\b.off+b.len<=4611686018427387903):∃e,gX a b=some (e,decide (a.off<b.off+b.len/\b.off<a.off+a.len)):=by
 unfold gX fX rk;simp only[ae];rw[fm (x:=a.off+a.len) (by omega) (by omega),fm (x:=b.off+b.len) (by omega) (by omega)];have hx:lP (a.off+a.len) (b.off+b.len)-imax a.off b.off<=4611686018427387903/\ -4611686018427387903<=lP (a.off+a.len) (b.off+b.len)-imax a.off b.off/\(lP (a.off+a.len) (b.off+b.len)-imax a.off b.off<1↔¬ (a.off<b.off+b.len/\b.off<a.off+a.len)):=by
  unfold lP imax;split<;>split<;>omega
 rw[fm (by omega) (by omega)];split
 . rename_i h;exact⟨_,by rw[decide_eq_false (hx.2.2.1 h)];rfl⟩
 . rename_i h;exact⟨_,by rw[aG (Classical.not_not.1 (fun k=>h (hx.2.2.2 k)))];rfl⟩
def Me(c:bO):cc:=⟨c.to,eD c⟩
theorem QH{c:bO}{ps:List bO}(hc:Good dM c)(hp:∀p∈ps,Good dM p)(hn:ps.length<=1000):EY c (ps.map Me)=some (ps.any (F6 c)):=by
 unfold EY;have hS:dU c=some (if c.kind=1 then(⟨c.cp,c.len⟩,true)else(⟨0,0⟩,false)):=by
  unfold dU;by_cases h:c.kind=1<;>simp[h]
 rw[hS];by_cases hk:c.kind=1
 . obtain⟨k1,k2,k3,k4,_⟩:=hc.copy hk;have k5:=hc.qM;unfold eD at k5;rw[if_pos hk]at k5;simp only[if_pos hk,ae,if_true];unfold fw fS;have hr:∀k (h:k<ps.length),BG (Me ps[k]) ⟨c.cp,c.len⟩=some (F6 c ps[k]):=fun k h=>by
    have g:=hp _ (az h);have g1:=g.JY;have g2:=g.qM;have g3:=g.max;obtain⟨e,he⟩:=Ws (a:=⟨c.cp,c.len⟩) (b:=Me ps[k]) ⟨k1,k5,k4⟩ ⟨g1,g2,g3⟩;unfold BG;rw[he];simp only[ae];congr 1;unfold F6;rw[bp];show c.cp<ps[k].to+eD ps[k]/\ps[k].to<c.cp+c.len↔_;unfold ed;simp[hk]
   have hK:=jj (f:=cw (ps.map Me) ⟨c.cp,c.len⟩) ps (F6 c) (fun k=>(k:Int)) (fun k=>(k:Int)) (-1)
    (fun k h hb=>by
     unfold cw;rw[if_pos (by simp;omega),cC (show k<(ps.map Me).length by simp;omega)];simp only[ae,List.getElem_map,hr k h,hb,aM,if_false];rw[df h (by omega)])
    (fun k h hb=>by
     unfold cw;rw[if_pos (by simp;omega),cC (show k<(ps.map Me).length by simp;omega)];simp only[ae,List.getElem_map,hr k h,hb,if_true])
    (by unfold cw;rw[if_neg (by simp)]) (s:=0) rfl
   rcases hK with⟨ha,he⟩|⟨k,h,hb,_,he⟩
   . rw[he];simp only[ae];congr 1;rw[show decide ((-1:Int)≥0)=false from rfl];symm;rw[List.any_eq_false];intro x hx;rw[ha x hx];simp
   . rw[he];simp only[ae];congr 1;rw[aG (show(k:Int)≥0 by omega)];symm;rw[bI];exact⟨_,az h,hb⟩
 . simp only[if_neg hk,ae,aM,if_false];congr 1;symm;rw[List.any_eq_false];intro x hx;unfold F6;simp[hk]
theorem acM(hn:l.length<=30)(sD:∀c∈l,Good dM c):∃r,IY l=some r/\acT l r:=by
 unfold IY LN sZ;simp only[ae];have hK:=jj (f:=fL l) (List.range l.length) (fun i=>Y8 l i) (fun k=>((l.take k).map Me,(k:Int),l,0)) (fun k=>.inl (l,(k:Int))) (.inr (l,0))
  (fun k hk hb=>by
   simp only[List.length_range]at hk;simp only[List.getElem_range]at hb;have hr:=QH (ps:=l.take k) (sD _ (az hk)) (fun p hp=>sD p (List.mem_of_mem_take hp)) (by simp;omega);unfold Y8 at hb;rw[bW hk]at hb;rw[hb]at hr;unfold fL yF;rw[if_pos (by simp;omega)];simp only[cC hk,ae,hr,aM,if_false,vx];rw[dA (by simp;omega),df hk (by omega),aB hk,aX];rfl)
  (fun k hk hb=>by
   simp only[List.length_range]at hk;simp only[List.getElem_range]at hb;have hr:=QH (ps:=l.take k) (sD _ (az hk)) (fun p hp=>sD p (List.mem_of_mem_take hp)) (by simp;omega);unfold Y8 at hb;rw[bW hk]at hb;rw[hb]at hr;unfold fL yF;rw[if_pos (by simp;omega)];simp only[cC hk,ae,hr,if_true])
  (by unfold fL;rw[if_neg (by simp)]) (s:=([],0,l,0)) rfl
 rcases hK with⟨ha,he⟩|⟨k,hk,hb,hj,he⟩
 . rw[he];exact⟨_,rfl,.inl ⟨fun i hi=>ha i (List.mem_range.2 hi),rfl⟩⟩
 . rw[he];simp only[List.length_range]at hk;simp only[List.getElem_range]at hb hj;exact⟨_,rfl,.inr ⟨k,hk,hb,hj,rfl⟩⟩
end
end G
end Go.Proofs.YtekpafdhgkocaaaGreat
namespace Go.Proofs.YtekpafdhgkocaaaGreat
open IntKind(i64)
open G
namespace G
def src(f:List UInt8)(c:bO):List UInt8:=if c.kind=1 then(f.take (c.cp+c.len).toNat).drop c.cp.toNat else c.data
section
variable {a0:List UInt8}{l:List bO}
theorem aec(c:bO):dU c=some (if c.kind=1 then(⟨c.cp,c.len⟩,true)else(⟨0,0⟩,false)):=by
 unfold dU;by_cases h:c.kind=1<;>simp[h]
end
end G
end Go.Proofs.YtekpafdhgkocaaaGreat
namespace Go.Proofs.YtekpafdhgkocaaaGreat
open IntKind(i64)
open G
namespace G
theorem Wv{a b:bO}(ha:Good dM a)(hb:Good dM b):∃n,pb a b=some n/\(n>0↔F6 a b=true):=by
 unfold pb F6;by_cases hk:a.kind=1
 . obtain⟨k1,k2,k3,k4,_⟩:=ha.copy hk;have k5:=ha.qM;rw[show eD a=a.len by unfold eD;rw[if_pos hk]]at k5;have b1:=hb.JY;have b2:=hb.qM;have b3:=hb.max;rw[if_neg (by simp[hk])];unfold nJ jU;unfold ed at b3 ⊢;simp only[ae,yg];rw[fm (x:=a.cp+a.len) (by omega) (by omega),fm (x:=b.to+eD b) (by omega) (by omega),ax];by_cases h:imax a.cp b.to≥lP (a.cp+a.len) (b.to+eD b)
   . rw[if_pos h];refine⟨_,rfl,?_⟩;simp only;revert h;unfold imax lP;split<;>split<;>omega
   . rw[if_neg h];refine⟨_,rfl,?_⟩;simp only;revert h;unfold imax lP;split<;>split<;>(intro h;rw[fm (by omega) (by omega)];omega)
 . rw[if_pos (by simpa using hk)];exact⟨0,rfl,by simp[hk]⟩
section
variable {l:List bO}
def ids(n:Nat):List Int:=(List.range n).map fun(k:Nat)=>(k:Int)
end
end G
end Go.Proofs.YtekpafdhgkocaaaGreat
namespace Go.Proofs.YtekpafdhgkocaaaGreat
open IntKind(i64)
open G
namespace G
theorem ad0{i j:Nat}(h:i+j<=9223372036854775807):i64.wrap (jB .u64 (IntKind.u64.wrap (i64.wrap ((i:Int)+(j:Int)))) 1)=(((i+j)/2:Nat):Int):=Sf (by omega) h
theorem YV{α:Type}{p:α->Bool}{x:α}:∀{l:List α},x∈l.takeWhile p->p x=true
 |[],h=>by cases h
 |a::l,h=>by
  by_cases ha:p a=true
  . rw[List.takeWhile_cons_of_pos ha]at h;rcases aV.1 h with rfl|h
    . exact ha
    . exact YV h
  . rw[List.takeWhile_cons_of_neg ha]at h;cases h
def xn(e:cc):Int:=e.off+e.len
def Ex(e:cc):Prop:=0<=e.off/\1<=e.len/\e.off+e.len<=4611686018427387903
def Iw(a b:cc):Bool:=decide (a.off<xn b/\b.off<xn a)
def adJ(a b:cc):cc:=⟨imax a.off b.off,lP (xn a) (xn b)-imax a.off b.off⟩
theorem Y4(a b:cc):Iw a b=Iw b a:=by unfold Iw;rw[bp];omega
theorem Wt{a b:cc}(ha:Ex a)(hb:Ex b):gX a b=some (if Iw a b=true then(adJ a b,true)else(⟨0,0⟩,false)):=by
 obtain⟨a1,a2,a3⟩:=ha;obtain⟨b1,b2,b3⟩:=hb;unfold gX fX rk;simp only[ae];rw[fm (x:=a.off+a.len) (by omega) (by omega),fm (x:=b.off+b.len) (by omega) (by omega)];have hx:lP (a.off+a.len) (b.off+b.len)-imax a.off b.off<=4611686018427387903/\ -4611686018427387903<=lP (a.off+a.len) (b.off+b.len)-imax a.off b.off/\(lP (a.off+a.len) (b.off+b.len)-imax a.off b.off<1↔¬ (a.off<b.off+b.len/\b.off<a.off+a.len)):=by
  unfold lP imax;split<;>split<;>omega
 rw[fm (by omega) (by omega)];unfold Iw xn;by_cases h:a.off<b.off+b.len/\b.off<a.off+a.len
 . rw[if_neg (fun k=>hx.2.2.1 k h),if_pos (aG h)];rfl
 . rw[if_pos (hx.2.2.2 h),if_neg (by simpa using h)];rfl
def Hw(B:List cc):List bR:=B.mapIdx fun k e=>⟨e,(k:Int)⟩
theorem uF(B:List cc):(Hw B).length=B.length:=by unfold Hw;simp
theorem Cp{B:List cc}{k:Nat}(hk:k<B.length)(h':k<(Hw B).length):(Hw B)[k]=⟨B[k],(k:Int)⟩:=List.getElem_mapIdx
theorem U2(B:List cc){k:Nat}(hk:k<B.length):(Hw B).take (k+1)=(Hw B).take k++[⟨B[k],(k:Int)⟩]:=by
 rw[aB (by rw[uF];exact hk),Cp hk]
theorem FV{B:List cc}{e:bR}(h:e∈Hw B):∃k,∃hk:k<B.length,e=⟨B[k],(k:Int)⟩:=by
 obtain⟨k,hk,rfl⟩:=bC.1 h;have hk':k<B.length:=by rwa[uF]at hk
 exact⟨k,hk',Cp hk' hk⟩
theorem Xu{B:List cc}{k:Nat}(hk:k<B.length):(⟨B[k],(k:Int)⟩:bR)∈Hw B:=by
 exact bC.2 ⟨k,by rw[uF];exact hk,Cp hk _⟩
theorem WA{e:cc}(h:Ex e):mi e=some true:=by
 obtain⟨h1,h2,h3⟩:=h;unfold mi;rw[if_pos (by unfold lP;split<;>omega),if_pos (by omega),fm (by omega) (by omega)];congr 1;exact aG (by omega)
theorem acd{B:List cc}(hB:∀e∈B,Ex e)(hn:B.length<=1000):Iter (uO B) (0,[])=some (.inl (Hw B)):=by
 refine cu (f:=uO B) B.length (fun k=>((k:Int),(Hw B).take k)) _ (fun k hk=>?_) ?_ rfl
 . have he:=hB _ (az hk);unfold uO;rw[if_pos (by simp only;omega)];simp only[cC hk,ae,WA he];rw[if_neg (by decide)];simp only[ae];rw[if_neg (by have:=he.2.1;simp only[beq_iff_eq];omega),dA (by simp[uF];omega),df hk (by omega),U2 B hk];rfl
 . unfold uO;rw[if_neg (by simp)];rw[bF (by rw[uF];exact Nat.le_refl _)]
structure Zf(B:List cc)(y:List bR):Prop where
 perm:y.Perm (Hw B)
 len:y.length=B.length
 ex:∀e∈y,Ex e.dC
 srt:y.Pairwise fun a b=>xn a.dC<=b.dC.off
theorem Zh{B:List cc}(hB:∀e∈B,Ex e)(hn:B.length<50)(hd:∀i j (hi:i<B.length) (hj:j<B.length),i≠j->Iw B[i] B[j]=false):∃y,Dm B=some (.inr y)/\Zf B y:=by
 unfold Dm;rw[acd hB (by omega)];simp only[ae,sx];obtain⟨y,e,hp,hs⟩:=QI.qO (Hw B) (by rw[uF];exact hn);rw[e];simp only[ae];have hl:y.length=B.length:=by rw[hp.length_eq,uF]
 have hex:∀e∈y,Ex e.dC:=fun e he=>by
  obtain⟨k,hk,rfl⟩:=FV (hp.mem_iff.1 he);exact hB _ (az hk)
 have hnd:y.Pairwise fun a b=>a.position≠b.position:=by
  have h0:(Hw B).Pairwise fun a b=>a.position≠b.position:=by
   refine aQ.2 fun i j hi hj hij=>?_
   rw[Cp (by rwa[uF]at hi),Cp (by rwa[uF]at hj)];simp only;omega
  exact(hp.pairwise_iff (fun h=>h.symm)).2 h0
 have hsr:y.Pairwise fun a b=>xn a.dC<=b.dC.off:=by
  refine aQ.2 fun i j hi hj hij=>?_
  have h1:=aQ.1 hs i j hi hj hij;have h2:=aQ.1 hnd i j hi hj hij;have x2:=hex _ (az hj);obtain⟨p,hp1,e1⟩:=FV (hp.mem_iff.1 (az hi));obtain⟨q,hq1,e2⟩:=FV (hp.mem_iff.1 (az hj));have h3:=hd p q hp1 hq1 (fun h=>h2 (by rw[e1,e2];simp only;omega));rw[e1]at h1 ⊢;rw[e2]at h1 x2 ⊢;unfold Iw at h3;have h3:=of_decide_eq_false h3;unfold QI.key at h1;unfold Ex at x2;simp only at h1 x2 ⊢;unfold xn at h3 ⊢;omega
 refine⟨y,?_,hp,hl,hex,hsr⟩;refine cu (f:=xH y) y.length (fun k=>(k:Int)) _ (fun k hk=>?_) ?_ rfl
 . unfold xH;rw[if_pos (by omega)];have hv:(if(k:Int)>0 then(idx y (k:Int)).bind fun x11=>(idx y (i64.wrap ((k:Int)-1))).bind fun x12=>(fX x12.dC).bind fun y13=>some (decide (x11.dC.off<y13))else some false)=some false:=by
    by_cases h0:(k:Int)>0
    . rw[if_pos h0,cC hk,fm (by omega) (by omega),TF (k:=k-1) (by omega) (by omega)];unfold fX;simp only[ae];have x1:=hex _ (az (show k-1<y.length by omega));have:=aQ.1 hsr (k-1) k (by omega) hk (by omega);unfold Ex at x1;unfold xn at this;rw[fm (by omega) (by omega),decide_eq_false (by omega)]
    . rw[if_neg h0]
   rw[hv];simp only[ae];rw[if_neg (by decide),df hk (by omega)]
 . unfold xH;rw[if_neg (by omega)]
section
variable {B:List cc}{y:List bR}
theorem Zf.get(h:Zf B y){i j:Nat}(hij:i<j)(hj:j<y.length):xn y[i].dC<=y[j].dC.off:=aQ.1 h.srt i j (by omega) hj hij
theorem Zf.mono(h:Zf B y){i j:Nat}(hij:i<=j)(hj:j<y.length):xn y[i].dC<=xn y[j].dC:=by
 by_cases e:i=j
 . subst e;exact Int.le_refl _
 . have:=h.get (i:=i) (j:=j) (by omega) hj;have x:=h.ex _ (az hj);unfold Ex at x;have:xn y[j].dC=y[j].dC.off+y[j].dC.len:=rfl;omega
theorem WE(h:Zf B y)(hn:y.length<50)(o:Int):∃k:Nat,qT o y=some (k:Int)/\k<=y.length/\(∀j (hj:j<y.length),j<k->xn y[j].dC<=o)/\∀j (hj:j<y.length),k<=j->o<xn y[j].dC:=by
 unfold qT qA ji;simp only[ae];have hq:∀m (hm:m<y.length),nP (m:Int) y o=some (decide (o<xn y[m].dC)):=fun m hm=>by
  unfold nP fX;have x:=h.ex _ (az hm);unfold Ex at x;rw[cC hm];simp only[ae];rw[fm (by omega) (by omega)];rfl
 obtain⟨r,e,k,rfl,h1,h2,h3⟩:=cn (f:=gY y o)
  (fun m s=>∃i j:Nat,s=((i:Int),(j:Int))/\m=j-i/\i<=j/\j<=y.length/\(∀p (hp:p<y.length),p<i->xn y[p].dC<=o)/\∀p (hp:p<y.length),j<=p->o<xn y[p].dC)
  (fun r=>∃k:Nat,r=(k:Int)/\k<=y.length/\(∀j (hj:j<y.length),j<k->xn y[j].dC<=o)/\∀j (hj:j<y.length),k<=j->o<xn y[j].dC) (by
   rintro m s ⟨i,j,rfl,rfl,h1,h2,h3,h4⟩;unfold gY;simp only;by_cases hij:i<j
   . have hm:(i+j)/2<y.length:=by omega
     rw[if_pos (by omega),ad0 (by omega),hq _ hm];simp only[ae];by_cases hc:o<xn y[(i+j)/2].dC
     . rw[aG hc,if_neg (by decide)];exact .inl ⟨_,_,rfl,by omega,i,(i+j)/2,rfl,rfl,by omega,by omega,h3,fun p hp hjp=>by have:=h.mono hjp hp;omega⟩
     . rw[decide_eq_false hc,if_pos rfl];refine .inl ⟨j-((i+j)/2+1),_,rfl,by omega,(i+j)/2+1,j,?_,rfl,by omega,by omega,fun p hp hpi=>by have:=h.mono (i:=p) (j:=(i+j)/2) (by omega) hm;omega,h4⟩;rw[fm (by omega) (by omega)];rfl
   . rw[if_neg (by omega)];have:i=j:=by omega
     subst this;exact .inr ⟨_,rfl,i,rfl,h2,h3,h4⟩) _ ((0:Int),(y.length:Int)) ⟨0,y.length,rfl,rfl,Nat.zero_le _,Nat.le_refl _,fun p _ hp=>by omega,fun p hp hp2=>by omega⟩
 rw[e];exact⟨k,rfl,h1,h2,h3⟩
theorem Zg(h:Zf B y)(hn:y.length<50){s:cc}(hs:Ex s):∃M:List bR,pj s y=some (M.map (·.position))/\M.length<50/\(M.Pairwise fun a b=>xn a.dC<=b.dC.off)/\∀e,e∈M↔e∈y/\Iw e.dC s=true:=by
 obtain⟨k,hk,k1,k2,k3⟩:=WE h hn s.off;refine⟨(y.drop k).takeWhile fun e=>Iw e.dC s,?_,?_,?_,?_⟩
 . unfold pj rn fD;simp only[ae];rw[hk];simp only[ae];rw[NU];obtain⟨r,e,he⟩:=cn (f:=eV y s)
    (fun m st=>∃(i:Nat) (out:List Int),st=((i:Int),out)/\m=y.length-i/\k<=i/\i<=y.length/\out.length<=i/\out++((y.drop i).takeWhile fun e=>Iw e.dC s).map (·.position)=((y.drop k).takeWhile fun e=>Iw e.dC s).map (·.position))
    (fun r=>r=((y.drop k).takeWhile fun e=>Iw e.dC s).map (·.position)) (by
     rintro m st ⟨i,out,rfl,rfl,i1,i2,i3,i4⟩;unfold eV qA;simp only[ae];by_cases hi:i<y.length
     . have x:=h.ex _ (az hi);rw[if_pos (by omega),cC hi];simp only[ae];rw[Wt x hs];simp only[ae];rw[bq hi]at i4;by_cases hov:Iw y[i].dC s=true
       . rw[if_pos hov];rw[List.takeWhile_cons_of_pos (p:=fun e:bR=>Iw e.dC s) hov,aO]at i4;simp only[Bool.true_eq_false,if_false];unfold sH;rw[dA (by simp;omega)];simp only[ae,aM,if_false];rw[df hi (by omega)];exact .inl ⟨y.length-(i+1),_,rfl,by omega,i+1,_,rfl,rfl,by omega,hi,by simp;omega,by rw[aA];exact i4⟩
       . rw[if_neg hov];rw[List.takeWhile_cons_of_neg (p:=fun e:bR=>Iw e.dC s) hov,bG,aK]at i4;simp only[if_true,ae];exact .inr ⟨_,rfl,i4⟩
     . rw[if_neg (by omega)];rw[List.drop_eq_nil_of_le (by omega),List.takeWhile_nil,bG,aK]at i4;exact .inr ⟨_,rfl,i4⟩) _ ((k:Int),[]) ⟨k,[],rfl,rfl,Nat.le_refl _,k1,by simp,rfl⟩
   rw[e,he]
 . have h1:=(List.takeWhile_sublist (fun e:bR=>Iw e.dC s) (l:=y.drop k)).length_le;rw[bg]at h1;omega
 . exact h.srt.sublist ((List.takeWhile_sublist _).trans (List.drop_sublist _ _))
 . intro e;constructor
   . intro he;exact⟨List.mem_of_mem_drop ((List.takeWhile_sublist _).mem he),YV (p:=fun e:bR=>Iw e.dC s) he⟩
   . rintro⟨he,hov⟩;obtain⟨j,hj,rfl⟩:=bC.1 he;unfold Iw at hov;have hov:=aF hov;have hkj:k<=j:=Nat.le_of_not_lt fun hlt=>by
      have:=k2 j hj hlt;omega
     have hall:∀(n i:Nat),i+n=j->k<=i->y[j]∈(y.drop i).takeWhile fun e=>Iw e.dC s:=by
      intro n
      induction n with
      |zero=>
       intro i hi hki
       have:i=j:=by omega
       subst this
       rw[bq hj,List.takeWhile_cons_of_pos (p:=fun e:bR=>Iw e.dC s) (by unfold Iw;exact aG hov)]
       exact ar ..
      |succ n ih=>
       intro i hi hki
       have hi2:i<y.length:=by omega
       have x:=h.ex _ (az hi2)
       have q1:=h.get (i:=i) (j:=j) (by omega) hj
       have q2:=k3 i hi2 hki
       rw[bq hi2,List.takeWhile_cons_of_pos (p:=fun e:bR=>Iw e.dC s) (by
        unfold Iw;refine aG ⟨?_,q2⟩;unfold Ex at x;unfold xn at q1;omega)]
       exact aD _ (ih (i+1) (by omega) (by omega))
     exact hall (j-k) k (by omega) (Nat.le_refl _)
end
end G
end Go.Proofs.YtekpafdhgkocaaaGreat
namespace Go.Proofs.YtekpafdhgkocaaaGreat
open IntKind(i64)
open G
namespace G
def Yh(o:Int)(m:Nat):List Int:=(List.range m).map fun(j:Nat)=>o+(j:Int)
section
variable {l:List bO}
theorem acB{c:bO}(h:Good dM c):Ex (Me c):=⟨h.JY,h.qM,h.max⟩
theorem V2(h:Rt l)(i:Nat):∀p q (hp:p<((l.take i).map Me).length) (hq:q<((l.take i).map Me).length),p≠q->Iw ((l.take i).map Me)[p] ((l.take i).map Me)[q]=false:=by
 have key:∀p q (hp:p<l.length) (hq:q<l.length),p<q->Iw (Me l[q]) (Me l[p])=false:=fun p q hp hq hpq=>by
  have h1:=h.apart q hq;unfold QB at h1;rw[List.any_eq_false]at h1;have h2:=h1 l[p] (bC.2 ⟨p,by simp;omega,by simp⟩);rw[bW hq]at h2;show ov l[q] l[p]=false;simpa using h2
 intro p q hp hq hne;simp only[aI,aJ]at hp hq;simp only[List.getElem_map,List.getElem_take];rcases Nat.lt_or_ge p q with hpq|hpq
 . rw[Y4];exact key p q (by omega) (by omega) hpq
 . exact key q p (by omega) (by omega) (by omega)
end
end G
end Go.Proofs.YtekpafdhgkocaaaGreat
namespace Go.Proofs.YtekpafdhgkocaaaGreat
open IntKind(i64)
open G
namespace G
theorem ZK{d:bZ}{c:bO}(h:Good d c)(h1:d.cZ<=4611686018427387903):Good dM c:=
 ⟨h.JY,h.qM,h.max,h.max,fun hk=>by obtain⟨k1,k2,k3,k4,k5⟩:=h.copy hk;exact⟨k1,k2,k4,k4,k5⟩,h.lit⟩
theorem yf(d:bZ)(hn:d.bP.length<=9223372036854775807):∃b,ie d=some b/\(b=true->d.bP.length<=20/\∃S,Sm d S):=by
 unfold ie;by_cases h:(d.bP.length:Int)<=20
 . rw[if_pos h];obtain⟨b,e,hb⟩:=Wx d hn;rw[e];exact⟨b,rfl,fun h1=>⟨by omega,hb h1⟩⟩
 . rw[if_neg h];exact⟨false,rfl,fun h=>by cases h⟩
end G
end Go.Proofs.YtekpafdhgkocaaaGreat
namespace Go.Proofs.YtekpafdhgkocaaaGreat
open IntKind(i64)
open G
namespace G
theorem ME{l:List bO}:¬ B6 l↔l.Pairwise (fun a b=>ov a b=false):=by
 rw[aQ];constructor
 . intro h i j hi hj hij;cases e:ov l[i] l[j]with
   |false=>rfl
   |true=>exact absurd ⟨i,j,hi,hj,by omega,by rw[bW hi,bW hj,e]⟩ h
 . rintro h ⟨i,j,hi,hj,hne,e⟩;rw[bW hi,bW hj]at e;rcases Nat.lt_or_gt_of_ne hne with k|k
   . rw[h i j hi hj k]at e;cases e
   . rw[OQ,h j i hj hi k]at e;cases e
section
variable {d:bZ}{S L:List bO}{a0:List UInt8}
theorem VD.perm(h:VD d)(hp:L.Perm d.bP):VD ⟨d.cZ,d.cd,d.fU,d.fT,L⟩:=by
 refine⟨h.Yh,fun c hc=>W7 (h.sD c (hp.mem_iff.1 hc)) _,?_,fun o h1 h2=>?_⟩
 . exact ME.2 ((hp.pairwise_iff (fun h=>by rw[OQ];exact h)).2 (ME.1 h.apart))
 . obtain⟨c,hc,h3⟩:=h.full o h1 h2;exact⟨c,hp.mem_iff.2 hc,h3⟩
theorem Sm.other(h:Sm d S)(hp:L.Perm d.bP):Sm ⟨d.cZ,d.cd,d.fU,d.fT,L⟩ S:=
 ⟨h.vd.perm hp,by show L.length<=1000;rw[hp.length_eq];exact h.len,h.new,h.perm.trans hp.symm,h.til⟩
end
end G
end Go.Proofs.YtekpafdhgkocaaaGreat
namespace Go.Proofs.YtekpafdhgkocaaaGreat
open IntKind(i64)
open G
theorem KO:EqB fc:=fun x y=>by
 unfold fc;cases x;cases y;simp[cX]
structure GR(L:List bQ)(es:List (bQ×Bool))(out nm:List (Int×List Int)):Prop where
 es:es=L.map fun e=>(e,true)
 out:∀v,(dJ cX out v).getD []=(L.filter fun e=>cX e.cp v).map (·.to)
 nm:∀v,(dJ cX nm v).getD []=(L.filter fun e=>cX e.to v).map (·.cp)
 nd:L.Nodup
theorem GR.nil:GR [] [] [] []:=⟨rfl,fun _=>rfl,fun _=>rfl,List.nodup_nil⟩
section
variable {L:List bQ}{es:List (bQ×Bool)}{out nm:List (Int×List Int)}{n:Int}{e:bQ}
theorem GR.no(h:GR L es out nm)(hn:e ∉ L):dJ fc es e=none:=by
 rw[AD,h.es,List.any_map,List.any_eq_false];intro x hx hq;exact hn (by rw[(KO _ _).1 hq];exact hx)
theorem GR.yes(h:GR L es out nm)(hn:e∈L):dJ fc es e=some true:=by
 cases hm:dJ fc es e with
 |none=>
  rw[AD,h.es,List.any_map,List.any_eq_false]at hm
  exact absurd (KO.refl e) (hm e hn)
 |some v=>
  have:=Nf KO hm
  rw[h.es]at this
  obtain⟨x,_,hx⟩:=List.mem_map.1 this
  cases hx;rfl
theorem GR.add(h:GR L es out nm)(hn:e ∉ L):GR (L++[e]) (lA fc es e true) (lA cX out e.cp ((dJ cX out e.cp).getD []++[e.to])) (lA cX nm e.to ((dJ cX nm e.to).getD []++[e.cp])):=by
 refine⟨?_,fun v=>?_,fun v=>?_,?_⟩
 . rw[XE (h.no hn),h.es,aX];rfl
 . rw[Lc eO,List.filter_append,aX];by_cases hv:cX v e.cp=true
   . obtain rfl:=(eO _ _).1 hv;rw[if_pos hv,h.out];simp[List.filter_cons,eO.refl]
   . have hv':cX e.cp v=false:=eO.ne fun e1=>hv (by rw[e1];exact eO.refl _)
     rw[if_neg hv,h.out];simp[List.filter_cons,hv']
 . rw[Lc eO,List.filter_append,aX];by_cases hv:cX v e.to=true
   . obtain rfl:=(eO _ _).1 hv;rw[if_pos hv,h.nm];simp[List.filter_cons,eO.refl]
   . have hv':cX e.to v=false:=eO.ne fun e1=>hv (by rw[e1];exact eO.refl _)
     rw[if_neg hv,h.nm];simp[List.filter_cons,hv']
 . rw[List.nodup_append];exact⟨h.nd,by simp,fun a ha b hb=>by simp at hb;subst hb;exact fun e1=>hn (by rw[<- e1];exact ha)⟩
theorem We(h:GR L es out nm){i j:Int}(hi:0<=i)(hi':i<n)(hj:0<=j)(hj':j<n)(hl:L.length<=10000):
 ∃k es' out' inn' L',lG [⟨i,j⟩] n es out nm=some (k,es',out',inn')/\GR L' es' out' inn'/\((i=j\/(⟨i,j⟩:bQ)∈L)/\L'=L\/¬ (i=j\/(⟨i,j⟩:bQ)∈L)/\L'=L++[⟨i,j⟩]):=by
 have hlo:∀v,((dJ cX out v).getD []).length<=10000:=fun v=>by rw[h.out,aI];exact Nat.le_trans (bt _ _) hl
 have hli:∀v,((dJ cX nm v).getD []).length<=10000:=fun v=>by rw[h.nm,aI];exact Nat.le_trans (bt _ _) hl
 have hv:∀x:Int,0<=x->x<n->kW x n es out nm=some true:=fun x h1 h2=>by
  unfold kW gL;rw[if_pos h1];simp[h2]
 have hx:idx [(⟨i,j⟩:bQ)] 0=some ⟨i,j⟩:=rfl
 have hend:∀c es' out' inn',fW [⟨i,j⟩] n (c,1,es',out',inn')=some (.inr (c,es',out',inn')):=fun c es' out' inn'=>by
  unfold fW;rw[if_neg (by simp)]
 have w1:i64.wrap ((0:Int)+1)=1:=by decide
 unfold lG
 by_cases hc:i=j\/(⟨i,j⟩:bQ)∈L
 . refine⟨0,es,out,nm,L,?_,h,.inl ⟨hc,rfl⟩⟩
   have h1:fW [⟨i,j⟩] n (0,0,es,out,nm)=some (.inl (0,1,es,out,nm)):=by
    unfold fW;rw[if_pos (by simp)];simp only[hx,ae,hv i hi hi',hv j hj hj',w1];rcases hc with rfl|hc
    . simp
    . have:=h.yes hc;by_cases hij:i=j
      . simp[hij]
      . simp[hij,this]
   rw[uz h1,nD (hend _ _ _ _)]
 . refine⟨1,_,_,_,_,?_,h.add (e:=⟨i,j⟩) (fun hm=>hc (.inr hm)),.inr ⟨hc,rfl⟩⟩
   have hij:i≠j:=fun e=>hc (.inl e)
   have hno:=h.no (e:=⟨i,j⟩) fun hm=>hc (.inr hm)
   have a1:app 8 ((dJ cX out i).getD []) [j]=some ((dJ cX out i).getD []++[j]):=dA (by have:=hlo i;simp;omega)
   have a2:app 8 ((dJ cX nm j).getD []) [i]=some ((dJ cX nm j).getD []++[i]):=dA (by have:=hli j;simp;omega)
   have c1:∀x:Int,rL (cX x x=true)=some ():=fun x=>by unfold rL;rw[if_pos (eO.refl x)]
   have h1:fW [⟨i,j⟩] n (0,0,es,out,nm)=some (.inl (1,1,lA fc es ⟨i,j⟩ true,lA cX out i ((dJ cX out i).getD []++[j]),lA cX nm j ((dJ cX nm j).getD []++[i]))):=by
    unfold fW;rw[if_pos (by simp)];simp only[hx,ae,hv i hi hi',hv j hj hj',w1];simp[hij,hno,a1,a2,c1]
   rw[uz h1,nD (hend _ _ _ _)]
end
end Go.Proofs.YtekpafdhgkocaaaGreat
namespace Go.Proofs.YtekpafdhgkocaaaGreat
open IntKind(i64)
open G
namespace G
section
variable {l:List bO}
def nb(l:List bO)(i:Nat):List Nat:=(List.range l.length).filter fun j=>decide (i≠j)&&F6 (cat l i) (cat l j)
def Ly(l:List bO)(k:Nat):List (Nat×Nat):=(List.range k).flatMap fun i=>(nb l i).map fun j=>(i,j)
theorem yD(l:List bO)(k:Nat):Ly l (k+1)=Ly l k++(nb l k).map fun j=>(k,j):=by
 unfold Ly;rw[List.range_succ,List.flatMap_append];simp
theorem Sh(l:List bO)(i:Nat):(nb l i).length<=l.length:=by
 unfold nb;exact Nat.le_trans (bt _ _) (by simp)
theorem Gl(l:List bO):∀k,(Ly l k).length<=k*l.length
 |0=>by simp[Ly]
 |k+1=>by
  rw[yD,ak,aI];have h1:=Gl l k;have h2:=Sh l k;rw[Nat.succ_mul];omega
theorem HW{i j:Nat}:j∈nb l i↔j<l.length/\i≠j/\F6 (cat l i) (cat l j)=true:=by
 unfold nb;rw[aR,List.mem_range];simp
theorem Bp{k:Nat}{p:Nat×Nat}:p∈Ly l k↔p.1<k/\p.2∈nb l p.1:=by
 unfold Ly;rw[List.mem_flatMap];constructor
 . rintro⟨i,hi,hp⟩;obtain⟨j,hj,rfl⟩:=List.mem_map.1 hp;exact⟨List.mem_range.1 hi,hj⟩
 . rintro⟨h1,h2⟩;exact⟨p.1,List.mem_range.2 h1,List.mem_map.2 ⟨p.2,h2,rfl⟩⟩
def PW(p:Nat×Nat):bT:=⟨(p.1:Int),(p.2:Int)⟩
def Jl(p:Nat×Nat):bQ:=⟨(p.1:Int),(p.2:Int)⟩
theorem aac(l:List bO)(i j:Nat):((List.range (j+1)).filter fun j=>decide (i≠j)&&F6 (cat l i) (cat l j))=((List.range j).filter fun j=>decide (i≠j)&&F6 (cat l i) (cat l j))++(if(decide (i≠j)&&F6 (cat l i) (cat l j))=true then[j]else[]):=by
 rw[List.range_succ,List.filter_append];congr 1;rw[List.filter_cons];split<;>rfl
theorem QJ(h:Rt l){i:Nat}(hi:i<l.length)(N:Int){E0:List bT}(h0:E0.length<=900):
 Iter (lX l ((i:Int),N,E0)) (0,N,E0)=some (.inl (((i+1:Nat):Int),N,E0++(nb l i).map fun j=>PW (i,j))):=by
 have hn:=h.len
 refine cu (f:=lX l ((i:Int),N,E0)) l.length (fun j=>((j:Int),N,E0++((List.range j).filter fun j=>decide (i≠j)&&F6 (cat l i) (cat l j)).map fun j=>PW (i,j))) _ (fun j hj=>?_) ?_ (by simp)
 . unfold lX
   simp only
   rw[if_pos (by omega)]
   have hlen:((List.range j).filter fun j=>decide (i≠j)&&F6 (cat l i) (cat l j)).length<=30:=Nat.le_trans (bt _ _) (by simp;omega)
   have hv:(if(i:Int)≠(j:Int)then(idx l (i:Int)).bind fun x4=>(idx l (j:Int)).bind fun x5=>(pb x4 x5).bind fun y6=>some (decide (y6>(0:Int)))else some false)=some (decide (i≠j)&&F6 (cat l i) (cat l j)):=by
    by_cases e:i=j
    . rw[if_neg (by omega)];simp[e]
    . obtain⟨n,e1,e2⟩:=Wv (h.sD _ (az hi)) (h.sD _ (az hj));rw[if_pos (by omega),cC hi,cC hj];simp only[ae,e1];rw[bW hi,bW hj];by_cases hh:F6 l[i] l[j]=true
      . simp[e,hh,e2.2 hh]
      . have:¬ n>0:=fun hn=>hh (e2.1 hn)
        simp[e,hh,this]
   rw[hv]
   simp only[ae]
   rw[aac,aX]
   by_cases hb:(decide (i≠j)&&F6 (cat l i) (cat l j))=true
   . rw[if_pos hb,if_pos hb,dA (by simp only[ak,aI,bH,List.length_nil];omega)]
     simp only[ae]
     rw[df hj (by omega),aA]
     rfl
   . rw[if_neg hb,if_neg hb,df hj (by omega)]
     simp
 . unfold lX
   simp only
   rw[if_neg (by omega),df hi (by omega)]
   rfl
theorem IP(h:Rt l):ic l=some ((l.length:Int),(Ly l l.length).map PW):=by
 have hn:=h.len;unfold ic;refine cu (f:=oG l) l.length (fun i=>((i:Int),(l.length:Int),(Ly l i).map PW)) _ (fun i hi=>?_) ?_ (by simp[Ly])
 . unfold oG;rw[if_pos (by simp only;omega)];simp only;have hl:=Gl l i;have:i*l.length<=30*30:=Nat.mul_le_mul (by omega) (by omega);rw[QJ h hi _ (by rw[aI];omega),yD,aX,List.map_map];rfl
 . unfold oG;rw[if_neg (by simp)]
end
end G
end Go.Proofs.YtekpafdhgkocaaaGreat
namespace Go.Proofs.YtekpafdhgkocaaaGreat
open IntKind(i64)
open G
namespace G
section
variable {l:List bO}
theorem Vf{L:List bQ}{es:List (bQ×Bool)}{out nm:List (Int×List Int)}{n i:Int}{e1:List (bQ×Bool)}{o1 n1:List (Int×List Int)}{e2:List (bQ×Bool)}{o2 n2:List (Int×List Int)}(hG:GR L es out nm){J:List Int}(hJ:∀j∈J,0<=j/\j<n)(hJl:J.length<=50)(hL:L.length<=2000)(hi:0<=i)(hi':i<n)(hn:n<=1000):
 ∃es' out' inn' L',Iter (qP (n,e1,o1,n1) (i,e2,o2,n2) J) (0,es,out,nm)=some (.inl (i+1,es',out',inn'))/\GR L' es' out' inn'/\L'.length<=L.length+J.length/\∀e,e∈L'↔e∈L\/∃j∈J,i≠j/\e=⟨i,j⟩:=by
 obtain⟨r,e,es',out',inn',L',rfl,h1,h2,h3⟩:=cn (f:=qP (n,e1,o1,n1) (i,e2,o2,n2) J)
  (fun m s=>∃(k:Nat) (es':List (bQ×Bool)) (out' inn':List (Int×List Int)) (L':List bQ),s=((k:Int),es',out',inn')/\m=J.length-k/\k<=J.length/\GR L' es' out' inn'/\L'.length<=L.length+k/\∀e,e∈L'↔e∈L\/∃j∈J.take k,i≠j/\e=⟨i,j⟩)
  (fun r=>∃(es':List (bQ×Bool)) (out' inn':List (Int×List Int)) (L':List bQ),r=.inl (i+1,es',out',inn')/\GR L' es' out' inn'/\L'.length<=L.length+J.length/\∀e,e∈L'↔e∈L\/∃j∈J,i≠j/\e=⟨i,j⟩) (by
   rintro m s ⟨k,es',out',inn',L',rfl,rfl,hk,h1,h2,h3⟩;unfold qP;simp only;by_cases hlt:k<J.length
   . rw[if_pos (by omega),cC hlt];simp only[ae];obtain⟨j0,j1⟩:=hJ J[k] (az hlt);obtain⟨c,es2,out2,inn2,L2,q1,q2,q3⟩:=We h1 hi hi' j0 j1 (by omega);rw[q1];simp only[ae];rw[df hlt (by omega)];refine .inl ⟨J.length-(k+1),_,rfl,by omega,k+1,es2,out2,inn2,L2,rfl,rfl,by omega,q2,?_,fun e=>?_⟩
     . rcases q3 with⟨_,rfl⟩|⟨_,rfl⟩
       . omega
       . simp;omega
     . rw[aB hlt];rcases q3 with⟨q3,rfl⟩|⟨q3,rfl⟩
       . rw[h3];constructor
         . rintro(h|⟨j,hj,hne,he⟩)
           . exact .inl h
           . exact .inr ⟨j,bw _ hj,hne,he⟩
         . rintro(h|⟨j,hj,hne,he⟩)
           . exact .inl h
           . rcases aL.1 hj with hj|hj
             . exact .inr ⟨j,hj,hne,he⟩
             . rw[List.mem_singleton]at hj;subst hj;rcases q3 with q3|q3
               . exact absurd q3 hne
               . rw[he];exact(h3 _).1 q3
       . rw[aL,h3,List.mem_singleton];constructor
         . rintro((h|⟨j,hj,hne,he⟩)|h)
           . exact .inl h
           . exact .inr ⟨j,bw _ hj,hne,he⟩
           . exact .inr ⟨J[k],bL _ (by simp),fun e=>q3 (.inl e),h⟩
         . rintro(h|⟨j,hj,hne,he⟩)
           . exact .inl (.inl h)
           . rcases aL.1 hj with hj|hj
             . exact .inl (.inr ⟨j,hj,hne,he⟩)
             . rw[List.mem_singleton]at hj;subst hj;exact .inr he
   . have:k=J.length:=by omega
     subst this;rw[if_neg (by omega),fm (x:=i+1) (by omega) (by omega)];rw[bh]at h3;exact .inr ⟨_,rfl,es',out',inn',L',rfl,h1,h2,h3⟩) _ ((0:Int),es,out,nm) ⟨0,es,out,nm,L,rfl,rfl,Nat.zero_le _,hG,by omega,fun e=>by simp⟩
 exact⟨es',out',inn',L',e,h1,h2,h3⟩
theorem SS(h:Rt l):∃y,rS l=some (.inr y)/\Zf (l.map Me) y:=by
 have hn:=h.len;have h1:Iter (lW l) ([],0)=some (l.map Me):=by
  refine cu (f:=lW l) l.length (fun k=>((l.take k).map Me,(k:Int))) _ (fun k hk=>?_) ?_ (by simp)
  . unfold lW;rw[if_pos (by simp only;omega)];simp only[cC hk,ae,vx];rw[dA (by simp;omega),df hk (by omega),aB hk,aX];rfl
  . unfold lW;rw[if_neg (by simp)];simp
 have ha:=V2 h l.length;rw[bh]at ha;obtain⟨y,hy,hI⟩:=Zh (B:=l.map Me) (fun e he=>by obtain⟨c,hc,rfl⟩:=List.mem_map.1 he;exact acB (h.sD c hc)) (by simp;omega) ha;refine⟨y,?_,hI⟩;unfold rS;rw[h1];simp only[ae,hy]
theorem Xt(h:Rt l){y:List bR}(hI:Zf (l.map Me) y){i:Nat}(hi:i<l.length)(hk:l[i].kind=1):
 ∃J:List Int,pj ⟨l[i].cp,l[i].len⟩ y=some J/\J.length<=50/\∀j:Int,j∈J↔∃k:Nat,j=(k:Int)/\k<l.length/\F6 (cat l i) (cat l k)=true:=by
 have hn:=h.len
 have hg:=h.sD _ (az hi)
 obtain⟨k1,k2,k3,k4,_⟩:=hg.copy hk
 have k5:=hg.qM
 rw[show eD l[i]=l[i].len by unfold eD;rw[if_pos hk]]at k5
 obtain⟨M,m1,m2,_,m4⟩:=Zg hI (by rw[hI.len];simp;omega) (s:=⟨l[i].cp,l[i].len⟩) ⟨k1,k5,by have e:dM.cZ=4611686018427387903:=rfl;rw[e]at k3;exact k3⟩
 refine⟨_,m1,by simp;omega,fun j=>?_⟩
 rw[List.mem_map]
 constructor
 . rintro⟨e,he,rfl⟩
   obtain⟨e1,e2⟩:=(m4 e).1 he
   obtain⟨k,hk',rfl⟩:=FV (hI.perm.mem_iff.1 e1)
   simp only[aI]at hk'
   refine⟨k,rfl,hk',?_⟩
   rw[bW hi,bW hk']
   simp only[List.getElem_map]at e2
   unfold Iw xn Me at e2
   unfold F6 ed
   simp only[ax]at e2 ⊢
   exact⟨hk,e2.2,e2.1⟩
 . rintro⟨k,rfl,hk',hh⟩
   rw[bW hi,bW hk']at hh
   refine⟨⟨(l.map Me)[k]'(by simpa using hk'),(k:Int)⟩,(m4 _).2 ⟨hI.perm.mem_iff.2 (Xu (by simpa using hk')),?_⟩,rfl⟩
   simp only[List.getElem_map]
   unfold Iw xn Me
   unfold F6 ed at hh
   simp only[ax]at hh ⊢
   exact⟨hh.2.2,hh.2.1⟩
end
end G
end Go.Proofs.YtekpafdhgkocaaaGreat
namespace Go.Proofs.YtekpafdhgkocaaaGreat
open IntKind(i64)
open G
namespace G
section
variable {l:List bO}
theorem acb{i:Nat}(hi:i<l.length)(hk:l[i].kind≠1):nb l i=[]:=by
 unfold nb;rw[List.filter_eq_nil_iff];intro j _;rw[bW hi];unfold F6;simp[hk]
theorem J4(h:Rt l):∃es out nm L,oT l=some ((l.length:Int),es,out,nm)/\GR L es out nm/\L.length<=50*l.length/\∀e,e∈L↔∃p∈Ly l l.length,e=Jl p:=by
 have hn:=h.len;obtain⟨y,hy,hI⟩:=SS h;have hnew:ua (l.length:Int)=some ((l.length:Int),[],[],[]):=by
  unfold ua;rw[if_neg (by omega)];simp only[ae];rw[if_neg (by simp;omega)]
 unfold oT;rw[hnew];simp only[ae,hy];obtain⟨r,e,es,out,nm,L,rfl,h1,h2,h3⟩:=cn (f:=uD l ((l.length:Int),[],[],[]) y)
  (fun m s=>∃(i:Nat) (es:List (bQ×Bool)) (out nm:List (Int×List Int)) (L:List bQ),s=((i:Int),es,out,nm)/\m=l.length-i/\i<=l.length/\GR L es out nm/\L.length<=50*i/\∀e,e∈L↔∃p∈Ly l i,e=Jl p)
  (fun r=>∃(es:List (bQ×Bool)) (out nm:List (Int×List Int)) (L:List bQ),r=((l.length:Int),es,out,nm)/\GR L es out nm/\L.length<=50*l.length/\∀e,e∈L↔∃p∈Ly l l.length,e=Jl p) (by
   rintro m s ⟨i,es,out,nm,L,rfl,rfl,hi,h1,h2,h3⟩;unfold uD;simp only;by_cases hlt:i<l.length
   . rw[if_pos (by omega),cC hlt];simp only[ae,aec];by_cases hk:l[i].kind=1
     . rw[if_pos hk];simp only[if_true];obtain⟨J,j1,j2,j3⟩:=Xt h hI hlt hk;rw[j1];simp only[ae];obtain⟨es',out',inn',L',q1,q2,q3,q4⟩:=Vf (n:=(l.length:Int)) (i:=(i:Int)) (e1:=[]) (o1:=[]) (n1:=[]) (e2:=es) (o2:=out) (n2:=nm) h1 (J:=J) (fun j hj=>by obtain⟨k,rfl,hk',_⟩:=(j3 j).1 hj;omega) j2 (by omega) (by omega) (by omega) (by omega);rw[q1];refine .inl ⟨l.length-(i+1),_,rfl,by omega,i+1,es',out',inn',L',by simp,rfl,by omega,q2,by omega,fun e=>?_⟩;rw[q4,h3];constructor
       . rintro(⟨p,hp,he⟩|⟨j,hj,hne,he⟩)
         . exact⟨p,by rw[yD];exact bw _ hp,he⟩
         . obtain⟨k,rfl,hk',hh⟩:=(j3 j).1 hj;refine⟨(i,k),?_,he⟩;rw[yD];exact bL _ (List.mem_map.2 ⟨k,HW.2 ⟨hk',fun e=>hne (by rw[e]),hh⟩,rfl⟩)
       . rintro⟨p,hp,he⟩;rw[yD]at hp;rcases aL.1 hp with hp|hp
         . exact .inl ⟨p,hp,he⟩
         . obtain⟨k,hk2,rfl⟩:=List.mem_map.1 hp;obtain⟨k1,k2,k3⟩:=HW.1 hk2;exact .inr ⟨(k:Int),(j3 _).2 ⟨k,rfl,k1,k3⟩,by omega,he⟩
     . rw[if_neg hk];simp only[aM,if_false];rw[df hlt (by omega)];refine .inl ⟨l.length-(i+1),_,rfl,by omega,i+1,es,out,nm,L,rfl,rfl,by omega,h1,by omega,fun e=>?_⟩;rw[h3,yD,acb hlt hk];simp
   . have:i=l.length:=by omega
     subst this;rw[if_neg (by omega)];exact .inr ⟨_,rfl,es,out,nm,L,rfl,h1,h2,h3⟩) _ ((0:Int),[],[],[]) ⟨0,[],[],[],[],rfl,rfl,Nat.zero_le _,GR.nil,by simp,fun e=>by simp[Ly]⟩
 exact⟨es,out,nm,L,e,h1,h2,h3⟩
theorem Nh{α β:Type}{f:α->β}(hf:∀a b,f a=f b->a=b){l:List α}(h:l.Nodup):(l.map f).Nodup:=
 List.pairwise_map.2 (List.Pairwise.imp (fun hne e=>hne (hf _ _ e)) h)
end
end G
end Go.Proofs.YtekpafdhgkocaaaGreat
namespace Go.Proofs.YtekpafdhgkocaaaGreat
open IntKind(i64)
open G
namespace G
def H0:List Int->Int->Nat
 |[],_=>0
 |y::o,x=>if y=x then 0 else H0 o x+1
theorem Lw:∀{o:List Int} {x:Int},x ∉ o->H0 o x=o.length
 |[],_,_=>rfl
 |y::o,x,h=>by
  unfold H0;rw[if_neg (fun e=>h (by rw[e];exact ar)),Lw fun hm=>h (aD _ hm)];rfl
theorem OT:∀{o:List Int} {x:Int} {k:Nat} (hk:k<o.length),o[k]=x->x ∉ o.take k->H0 o x=k
 |y::o,x,0,hk,h,_=>by unfold H0;rw[if_pos (show y=x from h)]
 |y::o,x,k+1,hk,h,hn=>by
  unfold H0;rw[if_neg (fun e=>hn (by rw[e];simp)),OT (k:=k) (by simpa using hk) (by simpa using h) (fun hm=>hn (by rw[List.take_succ_cons];exact aD _ hm))]
theorem aaw(o:List Int)(x:Int)(hn:o.length<=1000):pc o x=some (H0 o x:Int):=by
 unfold pc;obtain⟨r,e,h⟩:=cn (f:=sG o x)
  (fun m s=>∃k:Nat,s=(k:Int)/\m=o.length-k/\k<=o.length/\x ∉ o.take k)
  (fun r=>r=(H0 o x:Int)) (by
   rintro m s ⟨k,rfl,rfl,hk,h⟩;unfold sG;by_cases hlt:k<o.length
   . rw[if_pos (by omega),cC hlt];simp only[ae];by_cases e:o[k]=x
     . rw[if_pos e];exact .inr ⟨_,rfl,by rw[OT hlt e h]⟩
     . rw[if_neg e,df hlt (by omega)];refine .inl ⟨o.length-(k+1),_,rfl,by omega,k+1,rfl,rfl,by omega,fun hm=>?_⟩;rw[aB hlt]at hm;rcases aL.1 hm with hm|hm
       . exact h hm
       . exact e (List.mem_singleton.1 hm).symm
   . have:k=o.length:=by omega
     subst this;rw[if_neg (by omega)];rw[bh]at h;exact .inr ⟨_,rfl,by rw[Lw h]⟩) _ (0:Int) ⟨0,rfl,rfl,Nat.zero_le _,by simp⟩
 rw[e,h]
theorem VI(o:List Int)(hn:o.length<=1000):∃m,dE o []=some m/\∀x,gQ x o m=some (H0 o x:Int):=by
 unfold dE;rw[fm (by omega) (by omega)];obtain⟨m,e,h⟩:=cn (f:=eh o)
  (fun n s=>∃(k:Nat) (m:List (Int×Int)),s=((k:Int)-1,m)/\n=k/\k<=o.length/\∀x,dJ cX m x=if x∈o.drop k then some ((k+H0 (o.drop k) x:Nat):Int)else none)
  (fun m=>∀x,dJ cX m x=if x∈o then some (H0 o x:Int)else none) (by
   rintro n s ⟨k,m,rfl,rfl,hk,h⟩;unfold eh;simp only
   cases n with
   |zero=>
    rw[if_neg (by omega)]
    refine .inr ⟨_,rfl,fun x=>?_⟩
    rw[h];simp
   |succ k=>
    have hk':k<o.length:=by omega
    rw[if_pos (by omega),show((k+1:Nat):Int)-1=(k:Int)by omega,cC hk']
    simp only[ae,pY]
    rw[fm (by omega) (by omega)]
    refine .inl ⟨k,_,rfl,by omega,k,_,rfl,rfl,by omega,fun x=>?_⟩
    rw[Lc eO,h,bq hk']
    by_cases hx:cX x o[k]=true
    . obtain rfl:=(eO _ _).1 hx
      rw[if_pos hx,if_pos ar]
      unfold H0
      rw[if_pos rfl];rfl
    . have hne:x≠o[k]:=fun e=>hx (by rw[<- e];exact eO.refl _)
      rw[if_neg hx]
      by_cases hm:x∈o.drop (k+1)
      . rw[if_pos hm,if_pos (aD _ hm)]
        simp only[H0]
        rw[if_neg (Ne.symm hne)]
        congr 1;omega
      . rw[if_neg hm,if_neg (by rw[aV];exact fun h=>h.elim hne hm)]) o.length ((o.length:Int)-1,[]) ⟨o.length,[],rfl,rfl,Nat.le_refl _,fun x=>by simp[dJ]⟩
 refine⟨m,e,fun x=>?_⟩;unfold gQ;rw[h];by_cases hx:x∈o
 . rw[if_pos hx];rfl
 . rw[if_neg hx,Lw hx];rfl
theorem J2(v:List Int)(hn:v.length<=10000):dP v=some v:=by
 unfold dP dK ek;have h1:Iter (cH v) (0,[])=some v:=by
  refine cu (f:=cH v) v.length (fun k=>((k:Int),v.take k)) _ (fun k hk=>?_) ?_ (by simp)
  . unfold cH fM;rw[if_pos (by simp only;omega),cC hk];simp only[ae];rw[dA (by simp;omega),df hk (by omega),aB hk];rfl
  . unfold cH;rw[if_neg (by simp),bh]
 rw[h1];rfl
theorem DC{a b:List Int}(h:a.Perm b)(ha:a.Pairwise (· <= ·))(hb:b.Pairwise (· <= ·)):a=b:=
 List.Perm.eq_of_pairwise (le:=(· <= ·)) (fun x y _ _ h1 h2=>Int.le_antisymm h1 h2) ha hb h
theorem Zi(L:List bQ){es:List (bQ×Bool)}{out nm:List (Int×List Int)}(hG:GR L es out nm)(v n:Int){w:List Int}(hw:((L.filter fun e=>cX e.cp v).map (·.to)).Perm w)(hs:w.Pairwise (· <= ·))(hn:w.length<50):gM v n es out nm=some w:=by
 unfold gM gR;rw[hG.out];simp only[ae];have hl:=hw.length_eq;unfold cR;rw[J2 _ (by omega)];simp only[ae];obtain⟨r,e,h1,h2⟩:=QO.qO ((L.filter fun e=>cX e.cp v).map (·.to)) (by omega);rw[e];simp only[ae];rw[DC (h1.trans hw) h2 hs]
section
variable {l:List bO}
def nbi(l:List bO)(i:Nat):List Int:=(nb l i).map fun j:Nat=>(j:Int)
theorem Si(l:List bO)(i:Nat):(nbi l i).Pairwise (· <= ·):=by
 unfold nbi nb;rw[List.pairwise_map];refine List.Pairwise.imp (R:=fun a b:Nat=>a<b) (fun h=>by omega) (List.Pairwise.filter _ List.pairwise_lt_range)
theorem Vt(l:List bO)(i:Nat):(nbi l i).Nodup:=by
 unfold nbi nb;exact Nh (fun a b e=>by omega) (List.Pairwise.filter _ List.nodup_range)
theorem X0{L:List bQ}(hn:L.Nodup)(h3:∀e,e∈L↔∃p∈Ly l l.length,e=Jl p){i:Nat}(hi:i<l.length):((L.filter fun e=>cX e.cp (i:Int)).map (·.to)).Perm (nbi l i):=by
 refine(List.perm_ext_iff_of_nodup ?_ (Vt l i)).2 fun x=>?_
 . rw[List.nodup_iff_pairwise_ne,List.pairwise_map];refine List.Pairwise.imp_of_mem (R:=fun a b=>a≠b) (fun{a b} ha hb hne e=>hne ?_) (List.Pairwise.filter _ hn);have e1:=(eO _ _).1 (aR.1 ha).2;have e2:=(eO _ _).1 (aR.1 hb).2;cases a;cases b;simp only at e e1 e2;subst e e1 e2;rfl
 . unfold nbi;rw[List.mem_map,List.mem_map];constructor
   . rintro⟨e,he,rfl⟩;obtain⟨h1,h2⟩:=aR.1 he;obtain⟨p,hp,rfl⟩:=(h3 _).1 h1;have h2:=(eO _ _).1 h2;unfold Jl at h2 ⊢;simp only at h2;have h2:p.1=i:=by omega
     exact⟨p.2,by rw[<- h2];exact(Bp.1 hp).2,rfl⟩
   . rintro⟨j,hj,rfl⟩;exact⟨Jl (i,j),aR.2 ⟨(h3 _).2 ⟨(i,j),Bp.2 ⟨hi,hj⟩,rfl⟩,eO.refl _⟩,rfl⟩
theorem abu{L:List bQ}{es:List (bQ×Bool)}{out nm:List (Int×List Int)}(h:Rt l)(hG:GR L es out nm)(h3:∀e,e∈L↔∃p∈Ly l l.length,e=Jl p){i:Nat}(hi:i<l.length)(n:Int):gM (i:Int) n es out nm=some (nbi l i):=by
 have hn:=h.len;have:=Sh l i;exact Zi L hG _ _ (X0 hG.nd h3 hi) (Si l i) (by unfold nbi;rw[aI];omega)
def Pf(o:List Int)(ps:List (Nat×Nat)):List (Nat×Nat):=ps.filter fun p=>decide (H0 o p.2<H0 o p.1)
theorem L5(o:List Int)(a b:List (Nat×Nat)):Pf o (a++b)=Pf o a++Pf o b:=List.filter_append _ _
theorem O9(o:List Int)(a:List (Nat×Nat)):(Pf o a).length<=a.length:=bt _ _
theorem Q3{ps:List (Nat×Nat)}{k:Nat}(hk:k<ps.length)(o:List Int):Pf o (ps.take (k+1))=Pf o (ps.take k)++(if H0 o ps[k].2<H0 o ps[k].1 then[ps[k]]else[]):=by
 rw[aB hk,L5];congr 1;unfold Pf;rw[List.filter_cons];by_cases h:H0 o ps[k].2<H0 o ps[k].1
 . simp[h]
 . simp[h]
theorem Zk{o:List Int}{m:List (Int×Int)}(hm:∀x,gQ x o m=some (H0 o x:Int)){i:Nat}(l0:List Nat)(hl0:l0.length<=50)(V:List bQ)(hV:V.length<=2000)(hi:i<=1000):
 Iter (ja o m (V,(i:Int)) (l0.map fun j:Nat=>(j:Int))) (V,0)=some (.inl (V++(Pf o (l0.map fun j=>(i,j))).map Jl,((i+1:Nat):Int))):=by
 refine cu (f:=ja o m (V,(i:Int)) (l0.map fun j:Nat=>(j:Int))) l0.length (fun k=>(V++(Pf o ((l0.map fun j=>(i,j)).take k)).map Jl,(k:Int))) _ (fun k hk=>?_) ?_ (by simp[Pf])
 . unfold ja
   simp only
   rw[if_pos (by simp;omega),cC (k:=k) (by simpa using hk)]
   simp only[ae,List.getElem_map,hm]
   have hk2:k<(l0.map fun j=>(i,j)).length:=by simpa using hk
   rw[Q3 hk2]
   simp only[List.getElem_map]
   have h1:=O9 o ((l0.map fun j=>(i,j)).take k)
   rw[aJ,aI]at h1
   by_cases hlt:H0 o (l0[k]:Int)<H0 o (i:Int)
   . rw[if_pos (by omega),if_pos hlt,dA (by simp;omega),df hk (by omega)]
     simp[Jl]
   . rw[if_neg (by omega),if_neg hlt,df hk (by omega)]
     simp
 . unfold ja
   simp only
   rw[if_neg (by simp),fm (by omega) (by omega),bF (by simp)]
   congr 2
theorem Zl(h:Rt l)(o:List Int)(ho:o.length<=1000):oy l o=some ((Pf o (Ly l l.length)).map Jl):=by
 have hn:=h.len;obtain⟨es,out,nm,L,h1,h2,_,h3⟩:=J4 h;obtain⟨m,hm1,hm2⟩:=VI o ho;unfold oy pz;simp only[ae,hm1,h1];refine cu (f:=mh l o m ((l.length:Int),es,out,nm)) l.length (fun k=>((Pf o (Ly l k)).map Jl,(k:Int))) _ (fun k hk=>?_) ?_ (by simp[Ly,Pf])
 . unfold mh;simp only;rw[if_pos (by omega),abu h h2 h3 hk];simp only[ae];have hp:=Gl l k;have hv:=O9 o (Ly l k);have hb:=Sh l k;have:k*l.length<=30*30:=Nat.mul_le_mul (by omega) (by omega);unfold nbi;rw[Zk hm2 (nb l k) (by omega) _ (by rw[aI];omega) (by omega),yD,L5,aX]
 . unfold mh;rw[if_neg (by simp)]
theorem Rp(h:Rt l)(o:List Int)(ho:o.length<=1000):nj l o=some ((Pf o (Ly l l.length)).map PW):=by
 have hn:=h.len;unfold nj;rw[IP h];simp only[ae];have hp:=Gl l l.length;have:l.length*l.length<=30*30:=Nat.mul_le_mul (by omega) (by omega);generalize Ly l l.length=ps at hp;refine cu (f:=kA o ((l.length:Int),ps.map PW)) ps.length (fun k=>((Pf o (ps.take k)).map PW,(k:Int))) _ (fun k hk=>?_) ?_ (by simp[Pf])
 . unfold kA;simp only;rw[if_pos (by simp;omega),cC (k:=k) (by simpa using hk)];simp only[ae,List.getElem_map,aaw o _ ho];rw[Q3 hk];have h1:=O9 o (ps.take k);rw[aJ]at h1;unfold PW;simp only;by_cases hlt:H0 o (ps[k].2:Int)<H0 o (ps[k].1:Int)
   . rw[if_pos (by omega),if_pos hlt,dA (by simp;omega),df hk (by omega)];simp
   . rw[if_neg (by omega),if_neg hlt,df hk (by omega)];simp
 . unfold kA;simp only;rw[if_neg (by simp),bh]
end
end G
end Go.Proofs.YtekpafdhgkocaaaGreat
