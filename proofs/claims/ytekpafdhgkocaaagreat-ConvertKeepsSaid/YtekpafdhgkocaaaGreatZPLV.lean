/- Part of the proof. -/
import Derived.Test.YtekpafdhgkocaaaGreatZPQ0
namespace Go.Proofs.YtekpafdhgkocaaaGreat
open IntKind(i64)
open G
namespace G
def fc(c:bN):Int:=if c.kind=1 then c.len else(c.data.length:Int)
def ea(c:bN):Int:=c.to+fc c
theorem vL(c:bN):gQ c=some ⟨c.to,fc c⟩:=by unfold gQ vQ fc;split<;>rfl
theorem JW(c:bN):kY c=some (fc c):=by unfold kY fc;split<;>rfl
theorem yp(c:bN):gL c=some ⟨c.to,fc c⟩:=by unfold gL;rw[JW];rfl
def P2(o n:Int):Bool:=decide (0<=o/\0<=n/\o+n<=4611686018427387903)
theorem zH{o n:Int}:P2 o n=true↔0<=o/\0<=n/\o+n<=4611686018427387903:=by unfold P2;simp
theorem Qf(e:cd):mn e=some (P2 e.off e.len):=by
 have hm:lN e.off e.len≥0↔0<=e.off/\0<=e.len:=by unfold lN;split<;>omega
 unfold mn P2;by_cases h:0<=e.off/\0<=e.len
 . rw[if_pos (hm.2 h)];split
   . rw[fm (by omega) (by omega)];congr 1;rw[aW];omega
   . congr 1;symm;rw[bh];omega
 . rw[if_neg (fun k=>h (hm.1 k))];congr 1;symm;rw[bh];omega
theorem Vv(e:cd):oY e=some (P2 e.off e.len):=by
 unfold oY P2 fu;simp only[aa];split
 . split
   . split
     . rw[fm (by omega) (by omega)];congr 1;rw[aW];omega
     . congr 1;symm;rw[bh];omega
   . congr 1;symm;rw[bh];omega
 . congr 1;symm;rw[bh];omega
def JK(c:bN):Int:=
 if c.kind≠1/\c.kind≠2 then 11 else if fc c=0 then 7 else if P2 c.to (fc c)=false then 2 else
  if c.kind=1 then(if c.data.length=0/\P2 c.cq c.len=true then 0 else 2)else if c.cq=0/\c.len=0 then 0 else 2
theorem Xe(c:bN):wx c=some (JK c):=by
 have e1:vQ c=some ⟨⟨c.to,fc c⟩⟩:=by unfold vQ fc;split<;>rfl
 unfold wx JK;simp only[e1,Qf,aa];by_cases k1:c.kind=1
 . by_cases t0:fc c=0
   . simp[k1,t0]
   . cases hv:P2 c.to (fc c)
     . simp[k1,t0,hv]
     . by_cases d0:c.data.length=0
       . cases hw:P2 c.cq c.len<;>simp[k1,t0,hv,d0,hw]
       . have:¬ (c.data.length:Int)=0:=by omega
         simp[k1,t0,hv,d0,this]
 . by_cases k2:c.kind=2
   . by_cases t0:fc c=0
     . simp[k2,t0]
     . cases hv:P2 c.to (fc c)
       . simp[k2,t0,hv]
       . by_cases f0:c.cq=0
         . by_cases l0:c.len=0<;>simp[k2,t0,hv,f0,l0]
         . simp[k2,t0,hv,f0]
   . simp[k1,k2]
theorem Vm(c:bN):rV c=some (JK c):=by
 unfold rV JK nP;simp only[yp,JW,Vv,aa];by_cases k1:c.kind=1
 . by_cases t0:fc c=0
   . simp[k1,t0]
   . cases hv:P2 c.to (fc c)
     . simp[k1,t0,hv]
     . by_cases d0:c.data.length=0
       . have:¬ (c.data.length:Int)>0:=by omega
         cases hw:P2 c.cq c.len<;>simp[k1,t0,hv,d0,hw]
       . have:0<c.data.length:=by omega
         simp[k1,t0,hv,d0,this]
 . by_cases k2:c.kind=2
   . by_cases t0:fc c=0
     . simp[k2,t0]
     . cases hv:P2 c.to (fc c)
       . simp[k2,t0,hv]
       . by_cases f0:c.cq=0
         . by_cases l0:c.len=0<;>simp[k2,t0,hv,f0,l0]
         . simp[k2,t0,hv,f0]
   . simp[k1,k2]
theorem HY{c:bN}(h:JK c=0):0<=c.to/\1<=fc c/\ea c<=4611686018427387903/\(c.kind=1->0<=c.cq/\0<=c.len/\c.cq+c.len<=4611686018427387903/\c.data=[])/\(c.kind≠1->c.kind=2/\c.cq=0/\c.len=0):=by
 unfold JK at h;split at h
 . omega
 . rename_i hk;split at h
   . omega
   . rename_i ht;split at h
     . omega
     . rename_i hv;have hv':=zH.1 (by simpa using hv);refine⟨hv'.1,by omega,hv'.2.2,fun k1=>?_,fun k1=>?_⟩
       . rw[if_pos k1]at h;split at h
         . rename_i hd;have:=zH.1 hd.2;exact⟨this.1,this.2.1,this.2.2,bM hd.1⟩
         . omega
       . rw[if_neg k1]at h;split at h
         . rename_i hd;exact⟨by omega,hd.1,hd.2⟩
         . omega
def RV(d:bZ)(c:bN):Int:=if JK c≠0 then JK c else if c.kind=1/\c.cq+c.len>d.cg then 5 else if ea c>d.b6 then 6 else 0
theorem Od(d:bZ)(c:bN):xM d c=some (RV d c):=by
 unfold xM RV ew fV;simp only[Xe,vL,aa];by_cases h:JK c=0
 . have hz:=HY h;simp only[h,ne_eq,not_true_eq_false,if_false];have e1:i64.wrap (c.to+fc c)=ea c:=fm (by unfold ea at hz;omega) (by unfold ea at hz;omega);by_cases k1:c.kind=1
   . have h2:=hz.2.2.2.1 k1;have e2:i64.wrap (c.cq+c.len)=c.cq+c.len:=fm (by omega) (by omega);by_cases h3:c.cq+c.len>d.cg<;>by_cases h4:ea c>d.b6<;>simp[k1,h3,h4,e1,e2]
   . by_cases h4:ea c>d.b6<;>simp[k1,h4,e1]
 . simp only[h,ne_eq,not_false_eq_true,if_true]
theorem BG(d:bZ)(c:bN):qL d c=some (RV d c):=by
 unfold qL RV;simp only[Vm,JW,aa];by_cases h:JK c=0
 . have hz:=HY h;simp only[h,ne_eq,not_true_eq_false,if_false];have e1:i64.wrap (c.to+fc c)=ea c:=fm (by unfold ea at hz;omega) (by unfold ea at hz;omega);by_cases k1:c.kind=1
   . have h2:=hz.2.2.2.1 k1;have e2:i64.wrap (c.cq+c.len)=c.cq+c.len:=fm (by omega) (by omega);by_cases h3:c.cq+c.len>d.cg<;>by_cases h4:ea c>d.b6<;>simp[k1,h3,h4,e1,e2]
   . by_cases h4:ea c>d.b6<;>simp[k1,h4,e1]
 . simp only[h,ne_eq,not_false_eq_true,if_true]
structure Good(d:bZ)(c:bN):Prop where
 IX:0<=c.to
 qF:1<=fc c
 fits:ea c<=d.b6
 max:ea c<=4611686018427387903
 copy:c.kind=1->0<=c.cq/\0<=c.len/\c.cq+c.len<=d.cg/\c.cq+c.len<=4611686018427387903/\c.data=[]
 lit:c.kind≠1->c.kind=2/\c.cq=0/\c.len=0
theorem yN{d:bZ}{c:bN}:RV d c=0↔Good d c:=by
 constructor
 . intro h;unfold RV at h;split at h
   . rename_i h1;exact absurd h h1
   . rename_i h1;have hz:=HY (by simpa using h1);split at h
     . omega
     . rename_i h2;split at h
       . omega
       . rename_i h3;exact⟨hz.1,hz.2.1,by omega,hz.2.2.1,fun k=>by have:=hz.2.2.2.1 k;exact⟨this.1,this.2.1,by have:=fun q=>h2 ⟨k,q⟩;omega,this.2.2.1,this.2.2.2⟩,hz.2.2.2.2⟩
 . intro h;have hc:JK c=0:=by
    unfold JK;have hk:¬ (c.kind≠1/\c.kind≠2):=fun k=>k.2 (h.lit k.1).1
    have:=h.IX;have:=h.qF;have:=h.max;rw[if_neg hk,if_neg (by omega),if_neg (by rw[zH.2 ⟨h.IX,by omega,h.max⟩];simp)];by_cases k1:c.kind=1
    . have hq:=h.copy k1;rw[if_pos k1,if_pos ⟨by rw[hq.2.2.2.2];rfl,zH.2 ⟨hq.1,hq.2.1,hq.2.2.2.1⟩⟩]
    . have hq:=h.lit k1;rw[if_neg k1,if_pos ⟨hq.2.1,hq.2.2⟩]
   unfold RV;rw[if_neg (by simpa using hc),if_neg (fun k=>by have:=(h.copy k.1).2.2.1;omega),if_neg (by have:=h.fits;omega)]
theorem Zx{d:bZ}{c:bN}:RV d c≠0↔¬ Good d c:=not_congr yN
def ov(a b:bN):Bool:=decide (a.to<ea b/\b.to<ea a)
theorem PE(a b:bN):ov a b=ov b a:=by unfold ov;rw[aW];omega
theorem Ky{d:bZ}{a b:bN}(ha:Good d a)(hb:Good d b):∃e,gS ⟨a.to,fc a⟩ ⟨b.to,fc b⟩=some (e,ov a b):=by
 have:=ha.IX;have:=hb.IX;have:=ha.max;have:=hb.max;have:=ha.qF;have:=hb.qF;unfold gS fV rf;simp only[aa];unfold ea at*
 rw[fm (x:=a.to+fc a) (by omega) (by omega),fm (x:=b.to+fc b) (by omega) (by omega)];have hx:lN (a.to+fc a) (b.to+fc b)-imax a.to b.to<=4611686018427387903/\ -4611686018427387903<=lN (a.to+fc a) (b.to+fc b)-imax a.to b.to/\(lN (a.to+fc a) (b.to+fc b)-imax a.to b.to<1↔¬ (a.to<b.to+fc b/\b.to<a.to+fc a)):=by
  unfold lN imax;split<;>split<;>omega
 rw[fm (by omega) (by omega)];unfold ov ea;split
 . rename_i h;exact⟨_,by rw[decide_eq_false (hx.2.2.1 h)];rfl⟩
 . rename_i h;exact⟨_,by rw[aH (Classical.not_not.1 (fun k=>h (hx.2.2.2 k)))];rfl⟩
theorem I7{d:bZ}{a b:bN}(ha:Good d a)(hb:Good d b):∃e,jS ⟨a.to,fc a⟩ ⟨b.to,fc b⟩=some e/\decide (e.len>0)=ov a b:=by
 have:=ha.IX;have:=hb.IX;have:=ha.max;have:=hb.max;have:=ha.qF;have:=hb.qF;unfold jS;simp only;unfold ea at*
 rw[fm (x:=a.to+fc a) (by omega) (by omega),fm (x:=b.to+fc b) (by omega) (by omega)];have hx:lN (a.to+fc a) (b.to+fc b)-imax a.to b.to<=4611686018427387903/\ -4611686018427387903<=lN (a.to+fc a) (b.to+fc b)-imax a.to b.to/\(imax a.to b.to≥lN (a.to+fc a) (b.to+fc b)↔¬ (a.to<b.to+fc b/\b.to<a.to+fc a)):=by
  unfold lN imax;split<;>split<;>omega
 unfold ov ea;split
 . rename_i h;exact⟨_,rfl,by rw[decide_eq_false (hx.2.2.1 h)];rfl⟩
 . rename_i h;refine⟨_,rfl,?_⟩;rw[fm (by omega) (by omega),aW];constructor
   . intro _;exact Classical.not_not.1 (fun k=>h (hx.2.2.2 k))
   . intro _;show lN (a.to+fc a) (b.to+fc b)-imax a.to b.to>0;omega
abbrev cat(l:List bN)(i:Nat):bN:=l.getD i default
theorem bX{l:List bN}{i:Nat}(h:i<l.length):cat l i=l[i]:=by simp[cat,h]
def Ro(l:List bN)(i:Nat):Bool:=(l.take i).any fun c=>ov (cat l i) c
end G
end Go.Proofs.YtekpafdhgkocaaaGreat
namespace Go.Proofs.YtekpafdhgkocaaaGreat
open IntKind(i64)
open G
namespace G
def Ix(l:List bN)(x:Int):Prop:=0<=x/\x<l.length
def key(l:List bN)(x:Int):Int:=(l.getD x.toNat default).to
theorem zP{l:List bN}{x y:Int}(hx:Ix l x)(hy:Ix l y):∃c,ng x y l=some c/\(c<0↔key l x<key l y):=by
 unfold ng lL iP key;obtain⟨h1,h2⟩:=hx;obtain⟨h3,h4⟩:=hy;rw[uo (k:=x.toNat) default (by omega) (by omega),uo (k:=y.toNat) default (by omega) (by omega)];simp only[aa,bne_self_eq_false,aI,if_false];generalize (l.getD x.toNat default).to=p;generalize (l.getD y.toNat default).to=q;split
 . exact⟨_,rfl,by omega⟩
 . split
   . exact⟨_,rfl,by omega⟩
   . exact⟨_,rfl,by omega⟩
def sw(ys:List Int)(i j:Nat):List Int:=(ys.set i (ys.getD j 0)).set j (ys.getD i 0)
theorem GD(ys:List Int)(i p:Nat)(v:Int):(ys.set i v).getD p 0=if p=i/\i<ys.length then v else ys.getD p 0:=by
 simp only[List.getD_eq_getElem?_getD,List.getElem?_set];by_cases h:i=p
 . subst h;by_cases h2:i<ys.length<;>simp[h2]
 . rw[if_neg h,if_neg (fun k=>h k.1.symm)]
theorem IV{ys:List Int}{i j:Nat}(hi:i<ys.length)(hj:j<ys.length)(p:Nat):(sw ys i j).getD p 0=if p=j then ys.getD i 0 else if p=i then ys.getD j 0 else ys.getD p 0:=by
 unfold sw;rw[GD,GD];simp only[bJ];by_cases h1:p=j
 . rw[if_pos ⟨h1,hj⟩,if_pos h1]
 . rw[if_neg (fun k=>h1 k.1),if_neg h1];by_cases h2:p=i
   . rw[if_pos ⟨h2,hi⟩,if_pos h2]
   . rw[if_neg (fun k=>h2 k.1),if_neg h2]
theorem Km{ys:List Int}{i j:Nat}(hi:i<ys.length)(hj:j<ys.length):(sw ys i j).Perm ys:=by
 unfold sw;have e1:ys.getD j 0=ys[j]:=by simp[hj]
 have e2:ys.getD i 0=ys[i]:=by simp[hi]
 rw[e1,e2];exact List.set_set_perm hi hj
structure Pm(xs ys:List Int)(lo hi:Nat):Prop where
 perm:ys.Perm xs
 out:∀p,p<lo\/hi<=p->ys.getD p 0=xs.getD p 0
theorem Pm.refl(xs:List Int)(lo hi:Nat):Pm xs xs lo hi:=⟨.refl _,fun _ _=>rfl⟩
theorem Pm.trans{xs ys zs:List Int}{lo hi:Nat}(h:Pm xs ys lo hi)(k:Pm ys zs lo hi):Pm xs zs lo hi:=⟨k.perm.trans h.perm,fun p hp=>(k.out p hp).trans (h.out p hp)⟩
theorem Pm.mono{xs ys:List Int}{lo hi lo' hi':Nat}(h:Pm xs ys lo hi)(h1:lo'<=lo)(h2:hi<=hi'):Pm xs ys lo' hi':=⟨h.perm,fun p hp=>h.out p (by omega)⟩
theorem Pm.len{xs ys:List Int}{lo hi:Nat}(h:Pm xs ys lo hi):ys.length=xs.length:=h.perm.length_eq
theorem Pm.sw{xs ys:List Int}{lo hi i j:Nat}(h:Pm xs ys lo hi)(hi1:lo<=i/\i<hi)(hj1:lo<=j/\j<hi)(hl:hi<=xs.length):Pm xs (sw ys i j) lo hi:=by
 have hlen:=h.len;refine⟨(Km (by omega) (by omega)).trans h.perm,fun p hp=>?_⟩;rw[IV (by omega) (by omega),if_neg (by omega),if_neg (by omega)];exact h.out p hp
def xy(l:List bN)(ys:List Int):Prop:=∀x∈ys,Ix l x
theorem Pm.all{l:List bN}{xs ys:List Int}{lo hi:Nat}(h:Pm xs ys lo hi)(ha:xy l xs):xy l ys:=fun x hx=>ha x (h.perm.mem_iff.1 hx)
theorem xy.get{l:List bN}{ys:List Int}(h:xy l ys){p:Nat}(hp:p<ys.length):Ix l (ys.getD p 0):=by
 have:ys.getD p 0=ys[p]:=by simp[hp]
 rw[this];exact h _ (aA hp)
def uK(l:List bN)(ys:List Int)(lo hi:Nat):Prop:=∀p q,lo<=p->p<q->q<hi->key l (ys.getD p 0)<=key l (ys.getD q 0)
theorem uK.u9{l:List bN}{xs ys:List Int}{lo hi a b:Nat}(h:uK l xs lo hi)(hp:Pm xs ys a b)(hd:hi<=a\/b<=lo):uK l ys lo hi:=fun p q h1 h2 h3=>by
 rw[hp.out p (by omega),hp.out q (by omega)];exact h p q h1 h2 h3
def VF:Nat:=1125899906842624
theorem tN:VF=1125899906842624:=rfl
section
variable {l:List bN}
theorem Wb{a i:Nat}{ys:List Int}{w:Int×List Int}(hw:w.1=(i:Int))(hall:xy l ys)(hi:i<ys.length)(ha:a<=i)(hb:ys.length<=VF)(hs:uK l ys a i):
 ∃zs,Iter (db (a:Int) l w) ((i:Int),ys)=some (.inl (((i+1:Nat):Int),zs))/\Pm ys zs a (i+1)/\uK l zs a (i+1):=by
 rw[tN]at hb
 obtain⟨r,hr,zs,rfl,h1,h2⟩:=ck (f:=db (a:Int) l w)
  (fun k s=>∃(j:Nat) (zs:List Int),s=((j:Int),zs)/\k=j/\a<=j/\j<=i/\Pm ys zs a (i+1)/\∀p q,a<=p->p<q->q<=i->q≠j->key l (zs.getD p 0)<=key l (zs.getD q 0))
  (fun r=>∃zs,r=.inl (((i+1:Nat):Int),zs)/\Pm ys zs a (i+1)/\uK l zs a (i+1)) (by
  rintro k s ⟨j,zs,rfl,hkj,hj1,hj2,hp,ho⟩
  have hlen:=hp.len
  have hal:=hp.all hall
  unfold db
  have done:(∀p,a<=p->p<j->key l (zs.getD p 0)<=key l (zs.getD j 0))->uK l zs a (i+1):=fun hd p q h1 h2 h3=>by
   by_cases hq:q=j
   . subst hq;exact hd p h1 h2
   . exact ho p q h1 h2 (by omega) hq
  by_cases hja:j>a
  . have hj':i64.wrap ((j:Int)-1)=((j-1:Nat):Int):=by rw[fm (by omega) (by omega)];omega
    obtain⟨c,hc,hcl⟩:=zP (l:=l) (hal.get (p:=j) (by omega)) (hal.get (p:=j-1) (by omega))
    rw[if_pos (show(j:Int)>(a:Int)by omega),hj',dD (0:Int) (show j<zs.length by omega),dD (0:Int) (show j-1<zs.length by omega)]
    simp only[aa,hc]
    by_cases hlt:c<0
    . left
      rw[if_pos (by simpa using hlt)]
      obtain⟨x,hx⟩:=wP (l:=zs.set j (zs.getD (j-1) 0)) (i:=((j-1:Nat):Int)) (k:=j-1) rfl (by simp;omega)
      simp only[aM,hx,aa]
      refine⟨j-1,_,rfl,by omega,j-1,sw zs j (j-1),rfl,rfl,by omega,by omega,hp.sw (by omega) (by omega) (by omega),fun p q h1 h2 h3 h4=>?_⟩
      rw[IV (by omega) (by omega),IV (by omega) (by omega)]
      have hk:=hcl.1 hlt
      by_cases e1:p=j-1
      . rw[if_pos e1]
        by_cases e2:q=j
        . rw[if_neg (by omega),if_pos e2];omega
        . rw[if_neg h4,if_neg e2]
          exact ho j q (by omega) (by omega) h3 e2
      . rw[if_neg e1]
        by_cases e3:p=j
        . rw[if_pos e3,if_neg h4,if_neg (by omega)]
          exact ho (j-1) q (by omega) (by omega) h3 (by omega)
        . rw[if_neg e3,if_neg h4]
          by_cases e2:q=j
          . rw[if_pos e2];exact ho p (j-1) h1 (by omega) (by omega) (by omega)
          . rw[if_neg e2];exact ho p q h1 h2 h3 e2
    . right
      rw[if_neg (by simpa using hlt)]
      refine⟨_,rfl,zs,by rw[hw,dk (n:=1125899906842625) (by omega) (by omega)],hp,done fun p h1 h2=>?_⟩
      have hk:key l (zs.getD (j-1) 0)<=key l (zs.getD j 0):=by
       have:=fun h=>hlt (hcl.2 h)
       omega
      by_cases e:p=j-1
      . rw[e];exact hk
      . exact Int.le_trans (ho p (j-1) h1 (by omega) (by omega) (by omega)) hk
  . right
    rw[if_neg (show ¬ (j:Int)>(a:Int)by omega)]
    simp only[aa,aI,if_false]
    exact⟨_,rfl,zs,by rw[hw,dk (n:=1125899906842625) (by omega) (by omega)],hp,done fun p h1 h2=>by omega⟩) i ((i:Int),ys) ⟨i,ys,rfl,rfl,ha,Nat.le_refl _,Pm.refl _ _ _,fun p q h1 h2 h3 h4=>hs p q h1 h2 (by omega)⟩
 exact⟨zs,hr,h1,h2⟩
theorem GH{a b:Nat}{ys:List Int}(hall:xy l ys)(hab:a<=b)(hbl:b<=ys.length)(hb:ys.length<=VF):
 ∃zs,cR ys (a:Int) (b:Int) l=some zs/\Pm ys zs a b/\uK l zs a b:=by
 have hb':=hb
 rw[tN]at hb'
 unfold cR
 rw[dk (k:=a) (n:=1125899906842625) (by omega) (by omega)]
 refine ck (fun k s=>∃(i:Nat) (zs:List Int),s=((i:Int),zs)/\k=b+1-i/\a+1<=i/\(i<=b\/i=a+1)/\Pm ys zs a b/\uK l zs a i)
  (fun zs=>Pm ys zs a b/\uK l zs a b) ?_ _ _ ⟨a+1,ys,rfl,rfl,Nat.le_refl _,.inr rfl,Pm.refl _ _ _,fun p q h1 h2 h3=>by omega⟩
 rintro k s ⟨i,zs,rfl,rfl,h1,h2,hp,hs⟩
 have hlen:=hp.len
 unfold fN
 by_cases hib:i<b
 . left
   rw[if_pos (show(i:Int)<(b:Int)by omega)]
   obtain⟨ws,hw,h3,h4⟩:=Wb (l:=l) (a:=a) (i:=i) (ys:=zs) (w:=((i:Int),zs)) rfl (hp.all hall) (by omega) (by omega) (by rw[tN];omega) hs
   exact⟨b+1-(i+1),_,hw,by omega,i+1,ws,rfl,rfl,by omega,.inl (by omega),hp.trans (h3.mono (Nat.le_refl _) (by omega)),h4⟩
 . right
   rw[if_neg (show ¬ (i:Int)<(b:Int)by omega)]
   exact⟨_,rfl,hp,fun p q h3 h4 h5=>hs p q h3 h4 (by omega)⟩
theorem BO{a b n:Nat}{ys:List Int}(hab:a+n<=b)(hbl:b+n<=ys.length)(hb:ys.length<=VF):
 ∃zs,cC ys (a:Int) (b:Int) (n:Int) l=some zs/\zs.Perm ys/\
  ∀p,zs.getD p 0=if a<=p/\p<a+n then ys.getD (p-a+b) 0 else if b<=p/\p<b+n then ys.getD (p-b+a) 0 else ys.getD p 0:=by
 rw[tN]at hb
 unfold cC
 refine ck (fun k s=>∃(i:Nat) (zs:List Int),s=((i:Int),zs)/\k=n-i/\i<=n/\zs.Perm ys/\∀p,zs.getD p 0=if a<=p/\p<a+i then ys.getD (p-a+b) 0 else if b<=p/\p<b+i then ys.getD (p-b+a) 0 else ys.getD p 0)
  (fun zs:List Int=>zs.Perm ys/\∀p,zs.getD p 0=if a<=p/\p<a+n then ys.getD (p-a+b) 0 else if b<=p/\p<b+n then ys.getD (p-b+a) 0 else ys.getD p 0) ?_ _ _
  ⟨0,ys,rfl,rfl,Nat.zero_le _,.refl _,fun p=>by rw[if_neg (by omega),if_neg (by omega)]⟩
 rintro k s ⟨i,zs,rfl,rfl,hi,hp,hg⟩
 have hlen:=hp.length_eq
 unfold gw
 by_cases hin:i<n
 . left
   have e1:i64.wrap ((a:Int)+(i:Int))=((a+i:Nat):Int):=by rw[fm (by omega) (by omega)];omega
   have e2:i64.wrap ((b:Int)+(i:Int))=((b+i:Nat):Int):=by rw[fm (by omega) (by omega)];omega
   rw[if_pos (show(i:Int)<(n:Int)by omega),e1,e2,dD (0:Int) (show b+i<zs.length by omega),dD (0:Int) (show a+i<zs.length by omega)]
   obtain⟨x,hx⟩:=wP (l:=zs.set (a+i) (zs.getD (b+i) 0)) (i:=((b+i:Nat):Int)) (k:=b+i) rfl (by simp;omega)
   simp only[aa,aM,hx,dk hin (by omega)]
   refine⟨n-(i+1),_,rfl,by omega,i+1,sw zs (a+i) (b+i),rfl,rfl,by omega,(Km (by omega) (by omega)).trans hp,fun p=>?_⟩
   rw[IV (by omega) (by omega),hg (a+i),hg (b+i),hg p]
   repeat' split
   all_goals first|rfl|omega|(congr 1;omega)
 . right
   rw[if_neg (show ¬ (i:Int)<(n:Int)by omega)]
   have:i=n:=by omega
   subst this
   exact⟨_,rfl,hp,hg⟩
def Me(f:Nat->Int)(lo m hi p:Nat):Int:=if p<lo\/hi<=p then f p else if p<lo+(hi-m)then f (p+(m-lo))else f (p-(hi-m))
theorem WH{a m b:Nat}{ys:List Int}(ham:a<m)(hmb:m<b)(hbl:b<=ys.length)(hb:ys.length<=VF):
 ∃zs,dm ys (a:Int) (m:Int) (b:Int) l=some zs/\zs.Perm ys/\∀p,zs.getD p 0=Me (fun p=>ys.getD p 0) a m b p:=by
 have hb':=hb
 rw[tN]at hb'
 unfold dm
 have e1:i64.wrap ((m:Int)-(a:Int))=((m-a:Nat):Int):=by rw[fm (by omega) (by omega)];omega
 have e2:i64.wrap ((b:Int)-(m:Int))=((b-m:Nat):Int):=by rw[fm (by omega) (by omega)];omega
 rw[e1,e2]
 obtain⟨r,hr,i,zs,rfl,hi1,hi2,hi3,hp,hg⟩:=ck (f:=eI (m:Int) l)
  (fun k s=>∃(i j:Nat) (zs:List Int),s=((i:Int),(j:Int),zs)/\k=i+j/\0<i/\0<j/\i<=m-a/\j<=b-m/\zs.Perm ys/\∀p,Me (fun p=>ys.getD p 0) a m b p=Me (fun p=>zs.getD p 0) (m-i) m (m+j) p)
  (fun r=>∃(i:Nat) (zs:List Int),r=((i:Int),zs)/\0<i/\i<=m-a/\i<=b-m/\zs.Perm ys/\∀p,Me (fun p=>ys.getD p 0) a m b p=Me (fun p=>zs.getD p 0) (m-i) m (m+i) p) (by
  rintro k s ⟨i,j,zs,rfl,rfl,h1,h2,h3,h4,hp,hg⟩
  have hlen:=hp.length_eq
  have e3:i64.wrap ((m:Int)-(i:Int))=((m-i:Nat):Int):=by rw[fm (by omega) (by omega)];omega
  unfold eI
  by_cases hij:i=j
  . right
    subst hij
    rw[if_neg (by simp)]
    exact⟨_,rfl,i,zs,rfl,h1,h3,h4,hp,hg⟩
  . left
    rw[if_pos (show((i:Int),(j:Int),zs).1≠((i:Int),(j:Int),zs).2.1 by simp;omega)]
    by_cases hgt:i>j
    . rw[if_pos (show((i:Int),(j:Int),zs).1>((i:Int),(j:Int),zs).2.1 by simp;omega)]
      obtain⟨ws,hw,hq,hz⟩:=BO (l:=l) (a:=m-i) (b:=m) (n:=j) (ys:=zs) (by omega) (by omega) (by rw[tN];omega)
      have e4:i64.wrap ((i:Int)-(j:Int))=((i-j:Nat):Int):=by rw[fm (by omega) (by omega)];omega
      simp only[e3,hw,aa,e4]
      refine⟨i-j+j,_,rfl,by omega,i-j,j,ws,rfl,rfl,by omega,h2,by omega,h4,hq.trans hp,fun p=>?_⟩
      rw[hg p]
      unfold Me
      simp only[hz]
      repeat' split
      all_goals first|rfl|omega|(congr 1;omega)
    . rw[if_neg (show ¬ ((i:Int),(j:Int),zs).1>((i:Int),(j:Int),zs).2.1 by simp;omega)]
      have e5:i64.wrap (i64.wrap ((m:Int)+(j:Int))-(i:Int))=((m+j-i:Nat):Int):=by rw[fm (x:=(m:Int)+(j:Int)) (by omega) (by omega),fm (by omega) (by omega)];omega
      obtain⟨ws,hw,hq,hz⟩:=BO (l:=l) (a:=m-i) (b:=m+j-i) (n:=i) (ys:=zs) (by omega) (by omega) (by rw[tN];omega)
      have e4:i64.wrap ((j:Int)-(i:Int))=((j-i:Nat):Int):=by rw[fm (by omega) (by omega)];omega
      simp only[e3,e5,hw,aa,e4]
      refine⟨i+(j-i),_,rfl,by omega,i,j-i,ws,rfl,rfl,h1,by omega,h3,by omega,hq.trans hp,fun p=>?_⟩
      rw[hg p]
      unfold Me
      simp only[hz]
      repeat' split
      all_goals first|rfl|omega|(congr 1;omega)) _ _
  ⟨m-a,b-m,ys,rfl,rfl,by omega,by omega,Nat.le_refl _,Nat.le_refl _,.refl _,fun p=>by rw[show m-(m-a)=a by omega,show m+(b-m)=b by omega]⟩
 rw[hr]
 have hlen:=hp.length_eq
 have e3:i64.wrap ((m:Int)-(i:Int))=((m-i:Nat):Int):=by rw[fm (by omega) (by omega)];omega
 simp only[aa,e3]
 obtain⟨ws,hw,hq,hz⟩:=BO (l:=l) (a:=m-i) (b:=m) (n:=i) (ys:=zs) (by omega) (by omega) (by rw[tN];omega)
 rw[hw]
 refine⟨ws,rfl,hq.trans hp,fun p=>?_⟩
 rw[hz p,hg p]
 unfold Me
 repeat' split
 all_goals first|rfl|omega|(congr 1;omega)
end
end G
end Go.Proofs.YtekpafdhgkocaaaGreat
namespace Go.Proofs.YtekpafdhgkocaaaGreat
open IntKind(i64)
open G
namespace G
theorem OH{f:Int×Int->Option ((Int×Int)⊕Int)}(T:Nat->Prop)(lo hi:Nat)(hle:lo<=hi)
 (hstep:∀i j:Nat,lo<=i->i<j->j<=hi->(T ((i+j)/2)/\f ((i:Int),(j:Int))=some (.inl ((((i+j)/2+1:Nat):Int),(j:Int))))\/(¬ T ((i+j)/2)/\f ((i:Int),(j:Int))=some (.inl ((i:Int),(((i+j)/2:Nat):Int)))))
 (hend:∀i:Nat,f ((i:Int),(i:Int))=some (.inr (i:Int))) (mono:∀p q,lo<=p->p<=q->q<hi->T q->T p):
 ∃s:Nat,Iter f ((lo:Int),(hi:Int))=some (s:Int)/\lo<=s/\s<=hi/\(∀p,lo<=p->p<s->T p)/\∀p,s<=p->p<hi->¬ T p:=by
 obtain⟨r,hr,s,rfl,h⟩:=ck (f:=f)
  (fun k s=>∃i j:Nat,s=((i:Int),(j:Int))/\k=j-i/\lo<=i/\i<=j/\j<=hi/\(∀p,lo<=p->p<i->T p)/\∀p,j<=p->p<hi->¬ T p)
  (fun r=>∃s:Nat,r=(s:Int)/\lo<=s/\s<=hi/\(∀p,lo<=p->p<s->T p)/\∀p,s<=p->p<hi->¬ T p) (by
  rintro k s ⟨i,j,rfl,rfl,h1,h2,h3,h4,h5⟩
  by_cases hij:i<j
  . left
    rcases hstep i j h1 hij h3 with⟨ht,hf⟩|⟨ht,hf⟩
    . exact⟨j-((i+j)/2+1),_,hf,by omega,(i+j)/2+1,j,rfl,rfl,by omega,by omega,h3,fun p hp1 hp2=>mono p _ hp1 (by omega) (by omega) ht,h5⟩
    . exact⟨(i+j)/2-i,_,hf,by omega,i,(i+j)/2,rfl,rfl,h1,by omega,by omega,h4,fun p hp1 hp2 ht'=>ht (mono _ p (by omega) hp1 hp2 ht')⟩
  . right
    have:i=j:=by omega
    subst this
    exact⟨_,hend i,i,rfl,h1,h3,h4,h5⟩) _ _
  ⟨lo,hi,rfl,rfl,Nat.le_refl _,hle,Nat.le_refl _,fun p h1 h2=>by omega,fun p h1 h2=>by omega⟩
 exact⟨s,hr,h⟩
section
variable {l:List bN}
theorem qP{ys zs:List Int}{lo m hi:Nat}(hz:∀p,zs.getD p 0=Me (fun p=>ys.getD p 0) lo m hi p)(p:Nat):
 key l (zs.getD p 0)=if p<lo\/hi<=p then key l (ys.getD p 0)else if p<lo+(hi-m)then key l (ys.getD (p+(m-lo)) 0)else key l (ys.getD (p-(hi-m)) 0):=by
 rw[hz];unfold Me;split
 . rfl
 . split<;>rfl
theorem Tz{ys zs:List Int}{lo m hi:Nat}(hp:zs.Perm ys)(hz:∀p,zs.getD p 0=Me (fun p=>ys.getD p 0) lo m hi p):Pm ys zs lo hi:=⟨hp,fun p h=>by rw[hz];unfold Me;rw[if_pos h]⟩
theorem Yt{i j:Nat}(h:i+j<=9223372036854775807):i64.wrap (eR .u64 (IntKind.u64.wrap (i64.wrap ((i:Int)+(j:Int)))) 1)=(((i+j)/2:Nat):Int):=Tg (by omega) h
theorem ae6{ys:List Int}{a b:Nat}(hall:xy l ys)(hab:a+1<b)(hbl:b<=ys.length)(hb:ys.length<=VF)(hs:uK l ys (a+1) b):
 ∃zs,(∀fx,cf fx ys (a:Int) ((a+1:Nat):Int) (b:Int) l=some zs)/\Pm ys zs a b/\uK l zs a b:=by
 have hb':=hb
 rw[tN]at hb'
 obtain⟨s,hs1,h1,h2,h3,h4⟩:=OH (f:=dy ys (a:Int) l) (fun p=>key l (ys.getD p 0)<key l (ys.getD a 0)) (a+1) b (by omega)
  (fun i j hi hij hj=>by
   obtain⟨c,hc,hcl⟩:=zP (l:=l) (hall.get (p:=(i+j)/2) (by omega)) (hall.get (p:=a) (by omega));unfold dy;rw[if_pos (show((i:Int),(j:Int)).1<((i:Int),(j:Int)).2 by simp;omega)];simp only[Yt (show i+j<=9223372036854775807 by omega)];rw[dD (0:Int) (show(i+j)/2<ys.length by omega),dD (0:Int) (show a<ys.length by omega)];simp only[aa,hc];by_cases hlt:c<0
   . left;rw[if_pos hlt,dk (n:=1125899906842625) (by omega) (by omega)];exact⟨hcl.1 hlt,rfl⟩
   . right;rw[if_neg hlt];exact⟨fun h=>hlt (hcl.2 h),rfl⟩)
  (fun i=>by unfold dy;rw[if_neg (by simp)])
  (fun p q hp hpq hq ht=>by
   by_cases e:p=q
   . subst e;exact ht
   . exact Int.lt_of_le_of_lt (hs p q hp (by omega) hq) ht)
 obtain⟨r,hr,zs,rfl,hp,hz⟩:=ck (f:=eA (s:Int))
  (fun k st=>∃(i:Nat) (zs:List Int),st=((i:Int),zs)/\k=s-1-i/\a<=i/\i<=s-1/\zs.Perm ys/\∀p,zs.getD p 0=Me (fun p=>ys.getD p 0) a (a+1) (i+1) p)
  (fun r=>∃zs:List Int,r=.inr zs/\zs.Perm ys/\∀p,zs.getD p 0=Me (fun p=>ys.getD p 0) a (a+1) s p) (by
   rintro k st ⟨i,zs,rfl,rfl,hi1,hi2,hp,hz⟩;have hlen:=hp.length_eq;unfold eA;have e1:i64.wrap ((s:Int)-1)=((s-1:Nat):Int):=by rw[fm (by omega) (by omega)];omega
   rw[e1];by_cases hlt:i<s-1
   . left;have e2:i64.wrap ((i:Int)+1)=((i+1:Nat):Int):=dk (n:=1125899906842625) (by omega) (by omega);rw[if_pos (show((i:Int),zs).1<((s-1:Nat):Int)by simp;omega)];obtain⟨x,hx⟩:=wP (l:=zs.set i (zs.getD (i+1) 0)) (i:=((i+1:Nat):Int)) (k:=i+1) rfl (by simp;omega);simp only[e2,dD (0:Int) (show i+1<zs.length by omega),dD (0:Int) (show i<zs.length by omega),aa,aM,hx];refine⟨s-1-(i+1),_,rfl,by omega,i+1,sw zs i (i+1),rfl,rfl,by omega,by omega,(Km (by omega) (by omega)).trans hp,fun p=>?_⟩;rw[IV (by omega) (by omega),hz i,hz (i+1),hz p];unfold Me
     repeat' split
     all_goals first|rfl|omega|(congr 1;omega)
   . right;rw[if_neg (show ¬ ((i:Int),zs).1<((s-1:Nat):Int)by simp;omega)];exact⟨_,rfl,zs,rfl,hp,by rw[show s=i+1 by omega];exact hz⟩) _ _
  ⟨a,ys,rfl,rfl,Nat.le_refl _,by omega,.refl _,fun p=>by unfold Me;(repeat' split);all_goals (first|rfl|omega|(congr 1;omega))⟩
 refine⟨zs,fun fx=>?_,(Tz hp hz).mono (Nat.le_refl _) h2,fun p q h5 h6 h7=>?_⟩
 . unfold cf
   rw[if_pos (by rw[fm (by omega) (by omega)];omega),hs1]
   simp only[aa,hr,NA]
 . rw[qP hz,qP hz]
   by_cases c1:p<a+(s-(a+1))
   . rw[if_neg (by omega),if_pos c1]
     by_cases c2:q<a+(s-(a+1))
     . rw[if_neg (by omega),if_pos c2];exact hs _ _ (by omega) (by omega) (by omega)
     . by_cases c3:s<=q
       . rw[if_pos (.inr c3)];exact hs _ _ (by omega) (by omega) h7
       . rw[if_neg (by omega),if_neg c2]
         have:=h3 (p+(a+1-a)) (by omega) (by omega)
         rw[show q-(s-(a+1))=a by omega];exact Int.le_of_lt this
   . by_cases c3:s<=p
     . rw[if_pos (.inr c3),if_pos (.inr (by omega))];exact hs _ _ (by omega) h6 h7
     . rw[if_neg (by omega),if_neg c1,if_pos (.inr (by omega)),show p-(s-(a+1))=a by omega]
       have:=h4 q (by omega) h7
       omega
theorem ae7{ys:List Int}{a m:Nat}(hall:xy l ys)(ham:a+1<m)(hbl:m+1<=ys.length)(hb:ys.length<=VF)(hs:uK l ys a m):
 ∃zs,(∀fx,cf fx ys (a:Int) (m:Int) ((m+1:Nat):Int) l=some zs)/\Pm ys zs a (m+1)/\uK l zs a (m+1):=by
 have hb':=hb
 rw[tN]at hb'
 obtain⟨s,hs1,h1,h2,h3,h4⟩:=OH (f:=dz ys (m:Int) l) (fun p=>¬ key l (ys.getD m 0)<key l (ys.getD p 0)) a m (by omega)
  (fun i j hi hij hj=>by
   obtain⟨c,hc,hcl⟩:=zP (l:=l) (hall.get (p:=m) (by omega)) (hall.get (p:=(i+j)/2) (by omega));unfold dz;rw[if_pos (show((i:Int),(j:Int)).1<((i:Int),(j:Int)).2 by simp;omega)];simp only[Yt (show i+j<=9223372036854775807 by omega)];rw[dD (0:Int) (show(i+j)/2<ys.length by omega),dD (0:Int) (show m<ys.length by omega)];simp only[aa,hc];by_cases hlt:c<0
   . right;rw[if_neg (by simpa using hlt)];exact⟨fun h=>h (hcl.1 hlt),rfl⟩
   . left;rw[if_pos (by simpa using hlt),dk (n:=1125899906842625) (by omega) (by omega)];exact⟨fun h=>hlt (hcl.2 h),rfl⟩)
  (fun i=>by unfold dz;rw[if_neg (by simp)])
  (fun p q hp hpq hq ht=>by
   by_cases e:p=q
   . subst e;exact ht
   . have:=hs p q hp (by omega) hq;omega)
 obtain⟨r,hr,zs,rfl,hp,hz⟩:=ck (f:=eB (s:Int))
  (fun k st=>∃(i:Nat) (zs:List Int),st=((i:Int),zs)/\k=i/\s<=i/\i<=m/\zs.Perm ys/\∀p,zs.getD p 0=Me (fun p=>ys.getD p 0) i m (m+1) p)
  (fun r=>∃zs:List Int,r=.inr zs/\zs.Perm ys/\∀p,zs.getD p 0=Me (fun p=>ys.getD p 0) s m (m+1) p) (by
   rintro k st ⟨i,zs,rfl,rfl,hi1,hi2,hp,hz⟩;have hlen:=hp.length_eq;unfold eB;by_cases hlt:s<k
   . left;have e2:i64.wrap ((k:Int)-1)=((k-1:Nat):Int):=by rw[fm (by omega) (by omega)];omega
     rw[if_pos (show((k:Int),zs).1>(s:Int)by simp;omega)];obtain⟨x,hx⟩:=wP (l:=zs.set k (zs.getD (k-1) 0)) (i:=((k-1:Nat):Int)) (k:=k-1) rfl (by simp;omega);simp only[e2,dD (0:Int) (show k-1<zs.length by omega),dD (0:Int) (show k<zs.length by omega),aa,aM,hx];refine⟨k-1,_,rfl,by omega,k-1,sw zs k (k-1),rfl,rfl,by omega,by omega,(Km (by omega) (by omega)).trans hp,fun p=>?_⟩;rw[IV (by omega) (by omega),hz k,hz (k-1),hz p];unfold Me
     repeat' split
     all_goals first|rfl|omega|(congr 1;omega)
   . right;rw[if_neg (show ¬ ((k:Int),zs).1>(s:Int)by simp;omega)];exact⟨_,rfl,zs,rfl,hp,by rw[show s=k by omega];exact hz⟩) _ _
  ⟨m,ys,rfl,rfl,h2,Nat.le_refl _,.refl _,fun p=>by unfold Me;(repeat' split);all_goals (first|rfl|omega|(congr 1;omega))⟩
 refine⟨zs,fun fx=>?_,(Tz hp hz).mono h1 (Nat.le_refl _),fun p q h5 h6 h7=>?_⟩
 . unfold cf
   rw[if_neg (by rw[fm (by omega) (by omega)];omega)]
   simp only[aa,pc]
   rw[if_pos (by rw[fm (by omega) (by omega)];omega),hs1]
   simp only[aa,hr,NA]
 . rw[qP hz,qP hz]
   by_cases c1:p<s
   . rw[if_pos (.inl c1)]
     by_cases c2:q<s
     . rw[if_pos (.inl c2)];exact hs _ _ h5 h6 (by omega)
     . rw[if_neg (by omega)]
       by_cases c3:q<s+(m+1-m)
       . rw[if_pos c3,show q+(m-s)=m by omega]
         have:=h3 p h5 c1
         omega
       . rw[if_neg c3];exact hs _ _ h5 (by omega) (by omega)
   . rw[if_neg (by omega),if_neg (show ¬ (q<s\/m+1<=q)by omega),if_neg (show ¬ q<s+(m+1-m)by omega)]
     by_cases c3:p<s+(m+1-m)
     . rw[if_pos c3,show p+(m-s)=m by omega]
       have:=h4 (q-(m+1-m)) (by omega) (by omega)
       omega
     . rw[if_neg c3];exact hs _ _ (by omega) (by omega) (by omega)
theorem ae8{ys:List Int}{a m b:Nat}(hall:xy l ys)(ham:a+1<m)(hmb:m+1<b)(hbl:b<=ys.length)(hb:ys.length<=VF)(hs1:uK l ys a m)(hs2:uK l ys m b):
 ∃(ws:List Int) (s e c:Nat),(∀fx,cf fx ys (a:Int) (m:Int) (b:Int) l=
  (if a<s/\s<c then fx (ws,(a:Int),(s:Int),(c:Int),l)else some ws).bind fun v=>if c<e/\e<b then fx (v,(c:Int),(e:Int),(b:Int),l)else some v)/\
  a<c/\c<b/\a<=s/\s<=c/\c<=e/\e<=b/\Pm ys ws a b/\uK l ws a s/\uK l ws s c/\uK l ws c e/\uK l ws e b/\∀p q,a<=p->p<c->c<=q->q<b->key l (ws.getD p 0)<=key l (ws.getD q 0):=by
 have hb':=hb
 rw[tN]at hb'
 obtain⟨c,hc⟩:∃c,c=(a+b)/2:=⟨_,rfl⟩
 have eN:i64.wrap ((c:Int)+(m:Int))=((c+m:Nat):Int):=by rw[fm (by omega) (by omega)];omega
 obtain⟨lo,hi,hlo,hv3⟩:∃lo hi:Nat,((m<=c/\lo=a/\hi=m)\/(c<m/\lo=c+m-b/\hi=c))/\
  (if(m:Int)>(c:Int)then some ((i64.wrap (((c+m:Nat):Int)-(b:Int))),(c:Int))else some ((a:Int),(m:Int)))=some ((lo:Int),(hi:Int)):=by
  by_cases h:c<m
  . refine⟨c+m-b,c,.inr ⟨h,rfl,rfl⟩,?_⟩
    rw[if_pos (by omega),fm (by omega) (by omega)]
    rw[show((c+m:Nat):Int)-(b:Int)=((c+m-b:Nat):Int)by omega]
  . exact⟨a,m,.inl ⟨by omega,rfl,rfl⟩,by rw[if_neg (by omega)]⟩
 obtain⟨s,hsr,h1,h2,h3,h4⟩:=OH (f:=dA ys (a:Int) (m:Int) (b:Int) l) (fun p=>¬ key l (ys.getD (c+m-1-p) 0)<key l (ys.getD p 0)) lo hi (by omega)
  (fun i j hi1 hij hj=>by
   obtain⟨d,hd⟩:∃d,d=(i+j)/2:=⟨_,rfl⟩;obtain⟨v,hv,hvl⟩:=zP (l:=l) (hall.get (p:=c+m-1-d) (by omega)) (hall.get (p:=d) (by omega));unfold dA;rw[if_pos (show((i:Int),(j:Int)).1<((i:Int),(j:Int)).2 by simp;omega)];simp only[Yt (show i+j<=9223372036854775807 by omega),Yt (show a+b<=9223372036854775807 by omega),<- hc,<- hd,eN];have e1:i64.wrap (i64.wrap (((c+m:Nat):Int)-1)-(d:Int))=((c+m-1-d:Nat):Int):=by rw[fm (x:=((c+m:Nat):Int)-1) (by omega) (by omega),fm (by omega) (by omega)];omega
   rw[e1,dD (0:Int) (show c+m-1-d<ys.length by omega),dD (0:Int) (show d<ys.length by omega)];simp only[aa,hv];by_cases hlt:v<0
   . right;rw[if_neg (by simpa using hlt)];exact⟨fun h=>h (hvl.1 hlt),rfl⟩
   . left;rw[if_pos (by simpa using hlt),dk (n:=1125899906842625) (by omega) (by omega)];exact⟨fun h=>hlt (hvl.2 h),rfl⟩)
  (fun i=>by unfold dA;rw[if_neg (by simp)])
  (fun p q hp hpq hq ht=>by
   by_cases e:p=q
   . subst e;exact ht
   . have k1:=hs1 p q (by omega) (by omega) (by omega);have k2:=hs2 (c+m-1-q) (c+m-1-p) (by omega) (by omega) (by omega);omega)
 obtain⟨e,he⟩:∃e,e=c+m-s:=⟨_,rfl⟩
 have eE:i64.wrap (((c+m:Nat):Int)-(s:Int))=(e:Int):=by rw[fm (by omega) (by omega)];omega
 obtain⟨ws,hw,hp,hz⟩:∃ws:List Int,((if(s:Int)<(m:Int)then some (decide ((m:Int)<(e:Int)))else some false).bind fun v5=>
  if v5=true then(dm ys (s:Int) (m:Int) (e:Int) l).bind fun y3=>some y3 else some ys)=some ws/\ws.Perm ys/\∀p,ws.getD p 0=Me (fun p=>ys.getD p 0) s m e p:=by
  by_cases hsm:s<m
  . rw[if_pos (by omega)]
    by_cases hme:m<e
    . obtain⟨ws,h5,h6,h7⟩:=WH (l:=l) (a:=s) (m:=m) (b:=e) (ys:=ys) hsm hme (by omega) hb
      simp only[aa,show((m:Int)<(e:Int))=True by simp;omega,decide_true,if_true,h5]
      exact⟨ws,rfl,h6,h7⟩
    . simp only[aa,show((m:Int)<(e:Int))=False by simp;omega,decide_false,aI,if_false]
      refine⟨ys,rfl,.refl _,fun p=>?_⟩
      unfold Me
      repeat' split
      all_goals first|rfl|omega|(congr 1;omega)
  . rw[if_neg (by omega)]
    refine⟨ys,rfl,.refl _,fun p=>?_⟩
    unfold Me
    repeat' split
    all_goals first|rfl|omega|(congr 1;omega)
 refine⟨ws,s,e,c,fun fx=>?_,by omega,by omega,by omega,by omega,by omega,by omega,(Tz hp hz).mono (by omega) (by omega),?_,?_,?_,?_,?_⟩
 . unfold cf
   rw[if_neg (by rw[fm (by omega) (by omega)];omega)]
   simp only[aa,pc]
   rw[if_neg (by rw[fm (by omega) (by omega)];omega)]
   simp only[aa,pc,Yt (show a+b<=9223372036854775807 by omega),<- hc,eN,hv3,hsr,eE]
   rw[<- aG,hw]
   simp only[aa]
   have k1:(if(a:Int)<(s:Int)then some (decide ((s:Int)<(c:Int)))else some false)=some (decide (a<s/\s<c)):=by
    by_cases h5:a<s
    . rw[if_pos (by omega)];congr 1;simp only[aW];omega
    . rw[if_neg (by omega)];congr 1;simp;omega
   have k2:(if(c:Int)<(e:Int)then some (decide ((e:Int)<(b:Int)))else some false)=some (decide (c<e/\e<b)):=by
    by_cases h5:c<e
    . rw[if_pos (by omega)];congr 1;simp only[aW];omega
    . rw[if_neg (by omega)];congr 1;simp;omega
   simp only[k1,k2,aa,au,OG]
 . exact fun p q h5 h6 h7=>by rw[qP hz,qP hz,if_pos (.inl (by omega)),if_pos (.inl h7)];exact hs1 p q h5 h6 (by omega)
 . exact fun p q h5 h6 h7=>by
    rw[qP hz,qP hz,if_neg (by omega),if_neg (show ¬ (q<s\/e<=q)by omega),if_pos (by omega),if_pos (by omega)];exact hs2 _ _ (by omega) (by omega) (by omega)
 . exact fun p q h5 h6 h7=>by
    rw[qP hz,qP hz,if_neg (by omega),if_neg (show ¬ (q<s\/e<=q)by omega),if_neg (by omega),if_neg (by omega)];exact hs1 _ _ (by omega) (by omega) (by omega)
 . exact fun p q h5 h6 h7=>by rw[qP hz,qP hz,if_pos (.inr h5),if_pos (.inr (by omega))];exact hs2 p q (by omega) h6 h7
 . intro p q h5 h6 h7 h8
   rw[qP hz,qP hz]
   by_cases c1:p<s
   . rw[if_pos (.inl c1)]
     by_cases c2:q<e
     . rw[if_neg (by omega),if_neg (by omega)];exact hs1 _ _ h5 (by omega) (by omega)
     . rw[if_pos (.inr (by omega))]
       have k1:=h3 (s-1) (by omega) (by omega)
       rw[show c+m-1-(s-1)=e by omega]at k1
       have k2:key l (ys.getD p 0)<=key l (ys.getD (s-1) 0):=by
        by_cases ee:p=s-1
        . rw[ee];exact Int.le_refl _
        . exact hs1 _ _ h5 (by omega) (by omega)
       have k3:key l (ys.getD e 0)<=key l (ys.getD q 0):=by
        by_cases ee:e=q
        . rw[ee];exact Int.le_refl _
        . exact hs2 _ _ (by omega) (by omega) h8
       omega
   . rw[if_neg (by omega),if_pos (by omega)]
     by_cases c2:q<e
     . rw[if_neg (by omega),if_neg (by omega)]
       have k1:=h4 s (Nat.le_refl _) (by omega)
       rw[show c+m-1-s=e-1 by omega]at k1
       have k2:key l (ys.getD (p+(m-s)) 0)<=key l (ys.getD (e-1) 0):=by
        by_cases ee:p+(m-s)=e-1
        . rw[ee];exact Int.le_refl _
        . exact hs2 _ _ (by omega) (by omega) (by omega)
       have k3:key l (ys.getD s 0)<=key l (ys.getD (q-(e-m)) 0):=by
        by_cases ee:s=q-(e-m)
        . rw[<- ee];exact Int.le_refl _
        . exact hs1 _ _ (by omega) (by omega) (by omega)
       omega
     . rw[if_pos (.inr (by omega))];exact hs2 _ _ (by omega) (by omega) h8
theorem uK.join{zs:List Int}{a c b:Nat}(h1:uK l zs a c)(h2:uK l zs c b)(h3:∀p q,a<=p->p<c->c<=q->q<b->key l (zs.getD p 0)<=key l (zs.getD q 0)):uK l zs a b:=fun p q h4 h5 h6=>by
 by_cases hq:q<c
 . exact h1 p q h4 h5 hq
 . by_cases hp:p<c
   . exact h3 p q h4 hp (by omega) h6
   . exact h2 p q (by omega) h5 h6
theorem Pm.any{xs zs:List Int}{lo hi:Nat}(h:Pm xs zs lo hi)(hl:hi<=xs.length){p:Nat}(h1:lo<=p)(h2:p<hi):∃q,lo<=q/\q<hi/\zs.getD p 0=xs.getD q 0:=by
 have hlen:=h.len;have split:∀ws:List Int,ws.length=xs.length->ws=ws.take lo++((ws.drop lo).take (hi-lo)++ws.drop hi):=fun ws hw=>by
  have:=List.take_append_drop (hi-lo) (ws.drop lo);rw[List.drop_drop,show lo+(hi-lo)=hi by omega]at this;rw[this,List.take_append_drop]
 have e1:zs.take lo=xs.take lo:=List.ext_getElem? fun i=>by
  simp only[List.getElem?_take];split
  . have:=h.out i (.inl (by assumption));simp only[List.getD_eq_getElem?_getD]at this;rw[List.getElem?_eq_getElem (by omega),List.getElem?_eq_getElem (by omega)]at this ⊢;simpa using this
  . rfl
 have e2:zs.drop hi=xs.drop hi:=List.ext_getElem? fun i=>by
  simp only[List.getElem?_drop];have:=h.out (hi+i) (.inr (by omega));simp only[List.getD_eq_getElem?_getD]at this;by_cases hi':hi+i<xs.length
  . rw[List.getElem?_eq_getElem (by omega),List.getElem?_eq_getElem hi']at this ⊢;simpa using this
  . rw[List.getElem?_eq_none (by omega),List.getElem?_eq_none (by omega)]
 have hp:=h.perm;rw[split zs hlen,split xs rfl,e1,e2]at hp;have hm:=(List.perm_append_right_iff _).1 ((List.perm_append_left_iff _).1 hp);have hmem:zs.getD p 0∈(zs.drop lo).take (hi-lo):=by
  have:zs.getD p 0=zs[p]:=by simp[show p<zs.length by omega]
  rw[this];refine List.mem_iff_getElem?.2 ⟨p-lo,?_⟩;rw[List.getElem?_take,if_pos (by omega),List.getElem?_drop,show lo+(p-lo)=p by omega,List.getElem?_eq_getElem (by omega)]
 obtain⟨i,hi'⟩:=List.mem_iff_getElem?.1 (hm.mem_iff.1 hmem);rw[List.getElem?_take]at hi';split at hi'
 . rw[List.getElem?_drop]at hi';refine⟨lo+i,by omega,by omega,?_⟩;rw[List.getD_eq_getElem?_getD (l:=xs),hi'];rfl
 . cases hi'
theorem ZE{ys:List Int}{a m b:Nat}(hall:xy l ys)(ham:a<m)(hmb:m<b)(hbl:b<=ys.length)(hb:ys.length<=VF)(hs1:uK l ys a m)(hs2:uK l ys m b):
 ∃zs,da ys (a:Int) (m:Int) (b:Int) l=some zs/\Pm ys zs a b/\uK l zs a b:=by
 unfold da
 obtain⟨r,hr,a',b',ha',hb2,hp,hs⟩:=M7 (F:=cZ)
  (fun k x=>∃(ys:List Int) (a m b:Nat),x=(ys,(a:Int),(m:Int),(b:Int),l)/\k=b-a/\a<m/\m<b/\b<=ys.length/\ys.length<=VF/\xy l ys/\uK l ys a m/\uK l ys m b)
  (fun x r=>∃a b:Nat,x.2.1=(a:Int)/\x.2.2.2.1=(b:Int)/\Pm x.1 r a b/\uK l r a b) (by
  rintro k x ⟨ys,a,m,b,rfl,rfl,ham,hmb,hbl,hb,hall,hs1,hs2⟩ f g hfg
  unfold cZ
  by_cases c1:m=a+1
  . subst c1
    obtain⟨zs,h1,h2,h3⟩:=ae6 hall hmb hbl hb hs2
    exact⟨zs,h1 f,h1 g,a,b,rfl,rfl,h2,h3⟩
  . by_cases c2:b=m+1
    . subst c2
      obtain⟨zs,h1,h2,h3⟩:=ae7 hall (by omega) hbl hb hs1
      exact⟨zs,h1 f,h1 g,a,m+1,rfl,rfl,h2,h3⟩
    . obtain⟨ws,s,e,c,h1,k1,k2,k3,k4,k5,k6,hp,t1,t2,t3,t4,hx⟩:=ae8 hall (by omega) (by omega) hbl hb hs1 hs2
      have hlen:=hp.len
      simp only[h1]
      obtain⟨us,hf,hg,hpu,hsu⟩:∃us,(if a<s/\s<c then f (ws,(a:Int),(s:Int),(c:Int),l)else some ws)=some us/\(if a<s/\s<c then g (ws,(a:Int),(s:Int),(c:Int),l)else some ws)=some us/\Pm ws us a c/\uK l us a c:=by
       by_cases h2:a<s/\s<c
       . obtain⟨r,hr1,hr2,a',b',q1,q2,q3,q4⟩:=hfg (c-a) (ws,(a:Int),(s:Int),(c:Int),l) (by omega) ⟨ws,a,s,c,rfl,rfl,h2.1,h2.2,by omega,by omega,hp.all hall,t1,t2⟩;simp only at q1 q2 q3;have e1:a'=a:=by omega
         have e2:b'=c:=by omega
         subst e1 e2;exact⟨r,by rw[if_pos h2];exact hr1,by rw[if_pos h2];exact hr2,q3,q4⟩
       . refine⟨ws,by rw[if_neg h2],by rw[if_neg h2],Pm.refl _ _ _,?_⟩;by_cases h3:s=a
         . rw[h3]at t2;exact t2
         . rw[show c=s by omega];exact t1
      have hlu:=hpu.len
      obtain⟨vs,hf2,hg2,hpv,hsv⟩:∃vs,(if c<e/\e<b then f (us,(c:Int),(e:Int),(b:Int),l)else some us)=some vs/\(if c<e/\e<b then g (us,(c:Int),(e:Int),(b:Int),l)else some us)=some vs/\Pm us vs c b/\uK l vs c b:=by
       by_cases h2:c<e/\e<b
       . obtain⟨r,hr1,hr2,a',b',q1,q2,q3,q4⟩:=hfg (b-c) (us,(c:Int),(e:Int),(b:Int),l) (by omega) ⟨us,c,e,b,rfl,rfl,h2.1,h2.2,by omega,by omega,hpu.all (hp.all hall),t3.u9 hpu (.inr (Nat.le_refl _)),t4.u9 hpu (.inr (by omega))⟩;simp only at q1 q2 q3;have e1:a'=c:=by omega
         have e2:b'=b:=by omega
         subst e1 e2;exact⟨r,by rw[if_pos h2];exact hr1,by rw[if_pos h2];exact hr2,q3,q4⟩
       . refine⟨us,by rw[if_neg h2],by rw[if_neg h2],Pm.refl _ _ _,?_⟩;by_cases h3:e=c
         . rw[h3]at t4;exact t4.u9 hpu (.inr (Nat.le_refl _))
         . rw[show b=e by omega];exact t3.u9 hpu (.inr (Nat.le_refl _))
      refine⟨vs,by rw[hf];exact hf2,by rw[hg];exact hg2,a,b,rfl,rfl,(hp.trans (hpu.mono (Nat.le_refl _) (by omega))).trans (hpv.mono (by omega) (Nat.le_refl _)),(hsu.u9 hpv (.inl (Nat.le_refl _))).join hsv fun p q h2 h3 h4 h5=>?_⟩
      rw[hpv.out p (.inl h3)]
      obtain⟨p',hp1,hp2,e1⟩:=hpu.any (by omega) h2 h3
      obtain⟨q',hq1,hq2,e2⟩:=hpv.any (by omega) h4 h5
      rw[e1,e2,hpu.out q' (.inr hq1)]
      exact hx p' q' hp1 hp2 hq1 hq2) (k:=b-a) (x:=(ys,(a:Int),(m:Int),(b:Int),l)) ⟨ys,a,m,b,rfl,rfl,ham,hmb,hbl,hb,hall,hs1,hs2⟩
 simp only at ha' hb2 hp
 have e1:a'=a:=by omega
 have e2:b'=b:=by omega
 subst e1 e2
 exact⟨r,hr,hp,hs⟩
end
end G
end Go.Proofs.YtekpafdhgkocaaaGreat
namespace Go.Proofs.YtekpafdhgkocaaaGreat
open IntKind(i64)
open G
namespace G
section
variable {l:List bN}
def P5(l:List bN)(zs:List Int)(s lo n:Nat):Prop:=∀k,uK l zs (lo+k*s) (min (lo+k*s+s) n)
theorem P5.next{zs:List Int}{s lo n:Nat}(h:P5 l zs s lo n)(j:Nat):P5 l zs s (lo+j*s) n:=fun k=>by
 have:=h (j+k);rw[bf]at this;rwa[show lo+j*s+k*s=lo+(j*s+k*s)by omega]
theorem P5.u9{xs ys:List Int}{s lo n a b:Nat}(h:P5 l xs s lo n)(hp:Pm xs ys a b)(hb:b<=lo):P5 l ys s lo n:=fun k=>(h k).u9 hp (.inr (by omega))
theorem P5.first{zs:List Int}{s lo n:Nat}(h:P5 l zs s lo n):uK l zs lo (min (lo+s) n):=by have:=h 0;simpa using this
theorem P5.second{zs:List Int}{s lo n:Nat}(h:P5 l zs s lo n):uK l zs (lo+s) (min (lo+s+s) n):=by have:=h 1;simpa using this
def MH(l:List bN)(zs:List Int)(s hi:Nat):Prop:=∀k,k*s+s<=hi->uK l zs (k*s) (k*s+s)
theorem MH.u9{xs ys:List Int}{s hi a b:Nat}(h:MH l xs s hi)(hp:Pm xs ys a b)(ha:hi<=a):MH l ys s hi:=fun k hk=>(h k hk).u9 hp (.inl (by omega))
theorem Q4{n s:Nat}{ys:List Int}{w:Int×List Int}(hw:w.1=(s:Int))(hall:xy l ys)(hn:n=ys.length)(hb:ys.length<=VF)(hs:0<s)(hsn:s<n)(hB:P5 l ys s 0 n):
 ∃(a:Nat) (zs:List Int),Iter (dK (n:Int) l w) (0,i64.wrap (2*w.1),ys)=some ((a:Int),zs)/\Pm ys zs 0 n/\(∃t,a=t*(2*s))/\a<=n/\n<a+2*s/\MH l zs (2*s) a/\P5 l zs s a n:=by
 have hb':=hb
 rw[tN]at hb'
 have e2:i64.wrap (2*w.1)=((2*s:Nat):Int):=by rw[hw,fm (by omega) (by omega)];omega
 obtain⟨r,hr,a,zs,rfl,h⟩:=ck (f:=dK (n:Int) l w)
  (fun k st=>∃(a:Nat) (zs:List Int),st=((a:Int),((a+2*s:Nat):Int),zs)/\k=n-a/\Pm ys zs 0 n/\(∃t,a=t*(2*s))/\a<=n/\MH l zs (2*s) a/\P5 l zs s a n)
  (fun r=>∃(a:Nat) (zs:List Int),r=((a:Int),zs)/\Pm ys zs 0 n/\(∃t,a=t*(2*s))/\a<=n/\n<a+2*s/\MH l zs (2*s) a/\P5 l zs s a n) (by
   rintro k st ⟨a,zs,rfl,rfl,hp,⟨t,ht⟩,ha,hu,hbk⟩;have hlen:=hp.len;unfold dK;by_cases hlt:a+2*s<=n
   . left;rw[if_pos (show((a:Int),((a+2*s:Nat):Int),zs).2.1<=(n:Int)by simp;omega)];have e3:i64.wrap ((a:Int)+w.1)=((a+s:Nat):Int):=by rw[hw,fm (by omega) (by omega)];omega
     have e4:i64.wrap (((a+2*s:Nat):Int)+i64.wrap (2*w.1))=((a+2*s+2*s:Nat):Int):=by rw[e2,fm (by omega) (by omega)];omega
     have f1:=hbk.first;have f2:=hbk.second;rw[show min (a+s) n=a+s by omega]at f1;rw[show min (a+s+s) n=a+2*s by omega]at f2;obtain⟨ws,h1,h2,h3⟩:=ZE (l:=l) (ys:=zs) (a:=a) (m:=a+s) (b:=a+2*s) (hp.all hall) (by omega) (by omega) (by omega) (by omega) f1 f2;simp only[e3,h1,aa,e4];refine⟨n-(a+2*s),_,rfl,by omega,a+2*s,ws,rfl,rfl,hp.trans (h2.mono (Nat.zero_le _) hlt),⟨t+1,by rw[bf];omega⟩,hlt,fun k hk=>?_,?_⟩
     . by_cases hk2:k*(2*s)+2*s<=a
       . exact(hu.u9 h2 (Nat.le_refl _)) k hk2
       . have:k=t:=by
          rcases Nat.lt_trichotomy k t with h|h|h
          . have h':=Nat.mul_le_mul_right (2*s) (show k+1<=t from h);rw[bf]at h';omega
          . exact h
          . have h':=Nat.mul_le_mul_right (2*s) (show t+1<=k from h);rw[bf]at h';omega
         subst this;rw[<- ht];exact h3
     . have:=(hbk.next 2).u9 h2 (by omega);exact this
   . right;rw[if_neg (show ¬ ((a:Int),((a+2*s:Nat):Int),zs).2.1<=(n:Int)by simp;omega)];exact⟨_,rfl,a,zs,rfl,hp,⟨t,ht⟩,ha,by omega,hu,hbk⟩) n (0,i64.wrap (2*w.1),ys)
  ⟨0,ys,by rw[e2];simp,rfl,Pm.refl _ _ _,⟨0,by simp⟩,Nat.zero_le _,fun k hk=>by omega,hB⟩
 exact⟨a,zs,hr,h⟩
theorem SC{zs:List Int}{s a n:Nat}(hs:0<s)(ht:∃t,a=t*s)(hu:MH l zs s a)(hl:uK l zs a (min (a+s) n))(hn:n<=a+s):P5 l zs s 0 n:=by
 obtain⟨t,rfl⟩:=ht;intro k;rw[bc];by_cases h1:k<t
 . have:(k+1)*s<=t*s:=Nat.mul_le_mul_right s h1;rw[bf]at this;have h2:=hu k (by omega);exact fun p q h3 h4 h5=>h2 p q h3 h4 (by omega)
 . by_cases h2:k=t
   . subst h2;exact hl
   . have:(t+1)*s<=k*s:=Nat.mul_le_mul_right s (by omega);rw[bf]at this;exact fun p q h3 h4 h5=>by omega
theorem Pe{n:Nat}{ys:List Int}(hall:xy l ys)(hn:n=ys.length)(hb:ys.length<=VF):
 ∃(a:Nat) (zs:List Int),Iter (dJ (n:Int) l) (0,20,ys)=some ((a:Int),zs)/\Pm ys zs 0 n/\(∃t,a=t*20)/\a<=n/\n<a+20/\MH l zs 20 a:=by
 have hb':=hb
 rw[tN]at hb'
 obtain⟨r,hr,a,zs,rfl,h⟩:=ck (f:=dJ (n:Int) l)
  (fun k st=>∃(a:Nat) (zs:List Int),st=((a:Int),((a+20:Nat):Int),zs)/\k=n-a/\Pm ys zs 0 n/\(∃t,a=t*20)/\a<=n/\MH l zs 20 a)
  (fun r=>∃(a:Nat) (zs:List Int),r=((a:Int),zs)/\Pm ys zs 0 n/\(∃t,a=t*20)/\a<=n/\n<a+20/\MH l zs 20 a) (by
   rintro k st ⟨a,zs,rfl,rfl,hp,⟨t,ht⟩,ha,hu⟩;have hlen:=hp.len;unfold dJ;by_cases hlt:a+20<=n
   . left;rw[if_pos (show((a:Int),((a+20:Nat):Int),zs).2.1<=(n:Int)by simp;omega)];have e4:i64.wrap (((a+20:Nat):Int)+20)=((a+20+20:Nat):Int):=by rw[fm (by omega) (by omega)];omega
     obtain⟨ws,h1,h2,h3⟩:=GH (l:=l) (ys:=zs) (a:=a) (b:=a+20) (hp.all hall) (by omega) (by omega) (by omega);simp only[h1,aa,e4];refine⟨n-(a+20),_,rfl,by omega,a+20,ws,rfl,rfl,hp.trans (h2.mono (Nat.zero_le _) hlt),⟨t+1,by omega⟩,hlt,fun k hk=>?_⟩;by_cases hk2:k*20+20<=a
     . exact(hu.u9 h2 (Nat.le_refl _)) k hk2
     . have:k=t:=by omega
       subst this;rw[<- ht];exact h3
   . right;rw[if_neg (show ¬ ((a:Int),((a+20:Nat):Int),zs).2.1<=(n:Int)by simp;omega)];exact⟨_,rfl,a,zs,rfl,hp,⟨t,ht⟩,ha,by omega,hu⟩) n (0,20,ys)
  ⟨0,ys,rfl,rfl,Pm.refl _ _ _,⟨0,rfl⟩,Nat.zero_le _,fun k hk=>by omega⟩
 exact⟨a,zs,hr,h⟩
theorem WU{ys:List Int}(hall:xy l ys)(hb:ys.length<=VF):∃zs,dw ys l=some zs/\zs.Perm ys/\uK l zs 0 ys.length:=by
 have hb':=hb;rw[tN]at hb';obtain⟨n,hn⟩:∃n,n=ys.length:=⟨_,rfl⟩;unfold dw fh;rw[<- hn];obtain⟨a,zs,h1,hp,ht,ha1,ha2,hu⟩:=Pe hall hn hb;have hlen:=hp.len;obtain⟨ws,h2,hp2,hs2⟩:=GH (l:=l) (ys:=zs) (a:=a) (b:=n) (hp.all hall) ha1 (by omega) (by omega);have hB:P5 l ws 20 0 n:=SC (by omega) ht (hu.u9 hp2 (Nat.le_refl _)) (by rw[show min (a+20) n=n by omega];exact hs2) (by omega);rw[h1];simp only[aa,h2,OG];obtain⟨r,hr,h3,h4⟩:=ck (f:=eJ (n:Int) l)
  (fun k st=>∃(s:Nat) (zs:List Int),st=((s:Int),zs)/\k=n+20-s/\20<=s/\s<=2*n+20/\Pm ys zs 0 n/\P5 l zs s 0 n)
  (fun zs=>Pm ys zs 0 n/\uK l zs 0 n) (by
   rintro k st ⟨s,zs,rfl,rfl,h5,h6,hp,hB⟩;have hlen:=hp.len;unfold eJ;by_cases hlt:s<n
   . left;rw[if_pos (show((s:Int),zs).1<(n:Int)by simp;omega)];obtain⟨a,us,q1,q2,⟨t,q3⟩,q4,q5,q6,q7⟩:=Q4 (l:=l) (n:=n) (s:=s) (ys:=zs) (w:=((s:Int),zs)) rfl (hp.all hall) (by omega) (by omega) (by omega) hlt hB;have hl2:=q2.len;have e1:i64.wrap ((a:Int)+(s:Int))=((a+s:Nat):Int):=by rw[fm (by omega) (by omega)];omega
     have e2:i64.wrap ((s:Int)*2)=((2*s:Nat):Int):=by rw[fm (by omega) (by omega)];omega
     have f1:=q7.first;have f2:=q7.second;simp only[q1,aa,e1,e2];by_cases hm:a+s<n
     . rw[if_pos (by omega)];rw[show min (a+s) n=a+s by omega]at f1;rw[show min (a+s+s) n=n by omega]at f2;obtain⟨vs,g1,g2,g3⟩:=ZE (l:=l) (ys:=us) (a:=a) (m:=a+s) (b:=n) (q2.all (hp.all hall)) (by omega) hm (by omega) (by omega) f1 f2;simp only[g1,aa];exact⟨n+20-2*s,_,rfl,by omega,2*s,vs,rfl,rfl,by omega,by omega,(hp.trans q2).trans (g2.mono (Nat.zero_le _) (Nat.le_refl _)),SC (by omega) ⟨t,q3⟩ (q6.u9 g2 (Nat.le_refl _)) (by rw[show min (a+2*s) n=n by omega];exact g3) (by omega)⟩
     . rw[if_neg (by omega)];rw[show min (a+s) n=n by omega]at f1;exact⟨n+20-2*s,_,rfl,by omega,2*s,us,rfl,rfl,by omega,by omega,hp.trans q2,SC (by omega) ⟨t,q3⟩ q6 (by rw[show min (a+2*s) n=n by omega];exact f1) (by omega)⟩
   . right;rw[if_neg (show ¬ ((s:Int),zs).1<(n:Int)by simp;omega)];have:=hB.first;rw[show min (0+s) n=n by omega]at this;exact⟨_,rfl,hp,this⟩) n (20,ws)
  ⟨20,ws,rfl,by omega,by omega,by omega,hp.trans (hp2.mono (Nat.zero_le _) (Nat.le_refl _)),hB⟩
 exact⟨r,hr,h3.perm,h4⟩
def Kb(n:Nat):List Int:=(List.range n).map fun k:Nat=>(k:Int)
theorem Uz(l:List bN):xy l (Kb l.length):=fun x hx=>by
 obtain⟨k,hk,rfl⟩:=List.mem_map.1 hx;have:=List.mem_range.1 hk;exact⟨by omega,by omega⟩
theorem Oh(h:l.length<=17592186044416):∃ord,pW l=some (l,ord)/\ord.Perm (Kb l.length)/\uK l ord 0 l.length:=by
 unfold pW;rw[dX (by omega)];have h1:Iter (tA l) (0,List.replicate l.length 0)=some (Kb l.length):=by
  refine cb l.length (fun k=>((k:Int),(Kb k)++List.replicate (l.length-k) 0)) _ (fun k hk=>?_) ?_ (by simp[Kb])
  . unfold tA;rw[if_pos (by simp;omega)];obtain⟨x,hx⟩:=wP (l:=Kb k++List.replicate (l.length-k) (0:Int)) (i:=(k:Int)) (k:=k) rfl (by simp[Kb];omega);simp only[hx,aa,dk hk (by omega),aM];congr 3;rw[show Kb (k+1)=Kb k++[(k:Int)]by simp[Kb,List.range_succ],List.set_append_right _ _ (by simp[Kb])];rw[show l.length-k=(l.length-(k+1))+1 by omega,List.replicate_succ];simp[Kb]
  . unfold tA;rw[if_neg (by simp)];simp
 rw[aM,h1];simp only[aa];have hl:(Kb l.length).length=l.length:=by simp[Kb]
 obtain⟨zs,h2,h3,h4⟩:=WU (l:=l) (Uz l) (by rw[hl,tN];omega);have hz:=h3.length_eq;rw[h2];simp only[aa];exact⟨zs,rfl,h3,by rw[hl]at h4;exact h4⟩
end
end G
end Go.Proofs.YtekpafdhgkocaaaGreat
namespace Go.Proofs.YtekpafdhgkocaaaGreat
open IntKind(i64)
open G
namespace G
def Sa(l:List bN)(o:Int):Prop:=∃c∈l,c.to<=o/\o<ea c
def Ca(l:List bN):Prop:=∃i j,i<l.length/\j<l.length/\i≠j/\ov (cat l i) (cat l j)=true
structure T1(l:List bN)(t:Int):Prop where
 pos:0<=t
 cov:∀o,0<=o->o<t->Sa l o
 not:¬ Sa l t
 aft:t=0\/∃c∈l,t=ea c
theorem A6{l:List bN}{i:Nat}(h:i<l.length):cat l i∈l:=by
 have:cat l i=l[i]:=by simp[cat,h]
 rw[this];exact aA h
theorem Kg{l:List bN}{c:bN}(h:c∈l):∃i,i<l.length/\cat l i=c:=by
 obtain⟨i,hi,e⟩:=List.getElem_of_mem h;exact⟨i,hi,by rw[bX hi,e]⟩
structure Ord(l:List bN)(ord:List Int):Prop where
 perm:ord.Perm (Kb l.length)
 srt:uK l ord 0 l.length
theorem adG(l:List bN):∃ord,Ord l ord:=by
 refine⟨(Kb l.length).mergeSort fun x y=>decide (key l x<=key l y),List.mergeSort_perm _ _,fun p q _ hpq hq=>?_⟩;have h:=List.pairwise_mergeSort (le:=fun x y=>decide (key l x<=key l y)) (fun a b c h1 h2=>aH (Int.le_trans (aF h1) (aF h2))) (fun a b=>by
  rw[Bool.or_eq_true,au,au];exact Int.le_total _ _) (Kb l.length)
 have hl:((Kb l.length).mergeSort fun x y=>decide (key l x<=key l y)).length=l.length:=by rw[(List.mergeSort_perm _ _).length_eq];simp[Kb]
 have:=aF (aX.1 h p q (by omega) (by omega) hpq);rw[List.getD_eq_getElem?_getD,List.getD_eq_getElem?_getD,List.getElem?_eq_getElem (by omega),List.getElem?_eq_getElem (by omega)];exact this
section
variable {l:List bN}{ord:List Int}
theorem Ord.len(h:Ord l ord):ord.length=l.length:=by rw[h.perm.length_eq];simp[Kb]
def yg(l:List bN)(ord:List Int)(k:Nat):bN:=cat l (ord.getD k 0).toNat
theorem Ord.ix(h:Ord l ord){k:Nat}(hk:k<l.length):Ix l (ord.getD k 0):=by
 have hl:=h.len;refine xy.get (l:=l) (fun x hx=>?_) (by omega);exact Uz l x (h.perm.mem_iff.1 hx)
theorem Ord.le(h:Ord l ord){p q:Nat}(hpq:p<=q)(hq:q<l.length):(yg l ord p).to<=(yg l ord q).to:=by
 by_cases e:p=q
 . subst e;exact Int.le_refl _
 . exact h.srt p q (Nat.zero_le _) (by omega) hq
theorem Ord.inj(h:Ord l ord){p q:Nat}(hp:p<l.length)(hq:q<l.length)(e:(ord.getD p 0).toNat=(ord.getD q 0).toNat):p=q:=by
 have hl:=h.len;have hn:ord.Nodup:=by
  rw[h.perm.nodup_iff];show List.Pairwise _ _;unfold Kb;rw[List.pairwise_map];exact List.Pairwise.imp (fun h k=>h (by omega)) (List.nodup_range (n:=l.length))
 have i1:=(h.ix hp).1;have i2:=(h.ix hq).1;have e':ord.getD p 0=ord.getD q 0:=by omega
 have e1:ord.getD p 0=ord[p]:=by simp[show p<ord.length by omega]
 have e2:ord.getD q 0=ord[q]:=by simp[show q<ord.length by omega]
 rw[e1,e2]at e';have hpw:=aX.1 (show List.Pairwise (· ≠ ·) ord from hn);rcases Nat.lt_trichotomy p q with k|k|k
 . exact absurd e' (hpw p q _ _ k)
 . exact k
 . exact absurd e'.symm (hpw q p _ _ k)
theorem Ord.adT(h:Ord l ord){i:Nat}(hi:i<l.length):∃k,k<l.length/\(ord.getD k 0).toNat=i:=by
 have hl:=h.len;have hm:(i:Int)∈ord:=h.perm.mem_iff.2 (List.mem_map.2 ⟨i,List.mem_range.2 hi,rfl⟩);obtain⟨k,hk,e⟩:=List.getElem_of_mem hm;exact⟨k,by omega,by simp[hk,e]⟩
theorem Ord.mem(h:Ord l ord){k:Nat}(hk:k<l.length):yg l ord k∈l:=by
 have:=h.ix hk;obtain⟨h1,h2⟩:=this;exact A6 (by omega)
theorem Ord.any(h:Ord l ord){c:bN}(hc:c∈l):∃k,k<l.length/\yg l ord k=c:=by
 obtain⟨i,hi,e⟩:=Kg hc;obtain⟨k,hk,e'⟩:=h.adT hi;exact⟨k,hk,by unfold yg;rw[e',e]⟩
structure P6(l:List bN)(ord:List Int)(k:Nat)(e:Int):Prop where
 zero:k=0->e=0
 last:∀j,k=j+1->e=ea (yg l ord j)
 apart:∀p q,p<q->q<k->ea (yg l ord p)<=(yg l ord q).to
theorem P6.le{k:Nat}{e:Int}(h:P6 l ord k e)(hg:∀c∈l,0<=c.to/\1<=fc c)(ho:Ord l ord)(hk:k<=l.length){p:Nat}(hp:p<k):ea (yg l ord p)<=e:=by
 obtain⟨j,rfl⟩:∃j,k=j+1:=⟨k-1,by omega⟩;rw[h.last j rfl];by_cases e':p=j
 . subst e';exact Int.le_refl _
 . have h1:=h.apart p j (by omega) (by omega);have h2:=hg _ (ho.mem (k:=j) (by omega));unfold ea at *; omega
def Gap(l:List bN)(ord:List Int)(k:Nat)(e g:Int):Prop:=
 0<=e/\((g= -1/\∀o,0<=o->o<e->∃p,p<k/\(yg l ord p).to<=o/\o<ea (yg l ord p))\/
 (0<=g/\g<e/\(∀o,0<=o->o<g->∃p,p<k/\(yg l ord p).to<=o/\o<ea (yg l ord p))/\(∀p,p<k->¬ ((yg l ord p).to<=g/\g<ea (yg l ord p)))/\(g=0\/∃p,p<k/\g=ea (yg l ord p))))
theorem ZQ(hg:∀c∈l,0<=c.to/\1<=fc c/\ea c<=4611686018427387903)(hn:l.length<=17592186044416):
 (Ca l/\wN l=some (0,true))\/(¬ Ca l/\∃t,wN l=some (t,false)/\T1 l t):=by
 obtain⟨ord,hs,hp,hsr⟩:=Oh hn
 have ho:Ord l ord:=⟨hp,hsr⟩
 have hlen:=ho.len
 unfold wN nh
 rw[hs]
 simp only[aa]
 obtain⟨r,hr,hq⟩:=ck (f:=kT ord l)
  (fun n st=>∃(k:Nat) (e g:Int),st=((k:Int),0,false,e,g)/\n=l.length-k/\k<=l.length/\P6 l ord k e/\Gap l ord k e g)
  (fun r=>(∃e g,r=.inl (0,true,e,g)/\Ca l)\/∃e g,r=.inr (0,false,e,g)/\P6 l ord l.length e/\Gap l ord l.length e g) (by
   rintro n st ⟨k,e,g,rfl,rfl,hk,hc,hgap⟩;unfold kT yw;by_cases hlt:k<l.length
   . have hix:=ho.ix hlt;have hm:=ho.mem hlt;have hgo:=hg _ hm;rw[if_pos (show((k:Int),(0:Int),false,e,g).1<((ord.length:Nat):Int)by simp;omega)];simp only[dD (0:Int) (show k<ord.length by omega),aa];rw[uo (k:=(ord.getD k 0).toNat) default (by have:=hix.1;omega) (by have h8:=hix.1;have h9:=hix.2;omega)];simp only[aa,vL];rw[show l.getD (ord.getD k 0).toNat default=yg l ord k from rfl];by_cases h1:(yg l ord k).to<e
     . right;rw[if_pos h1];refine⟨_,rfl,.inl ⟨_,_,rfl,?_⟩⟩;have hk0:k≠0:=fun h=>by have:=hc.zero h;omega
       have hl:=hc.last (k-1) (by omega);have hle:=ho.le (p:=k-1) (q:=k) (by omega) hlt;have hix':=ho.ix (k:=k-1) (by omega);refine⟨(ord.getD (k-1) 0).toNat,(ord.getD k 0).toNat,by have h8:=hix'.1;have h9:=hix'.2;omega,by have h8:=hix.1;have h9:=hix.2;omega,fun h=>by have:=ho.inj (by omega) hlt h;omega,?_⟩;show ov (yg l ord (k-1)) (yg l ord k)=true;unfold ov;rw[au];unfold ea at*
       omega
     . left;rw[if_neg h1];have hnew:P6 l ord (k+1) (ea (yg l ord k)):=⟨fun h=>by omega,fun j hj=>by rw[show j=k by omega],fun p q hpq hqk=>by
        by_cases hq:q=k
        . subst hq;have:=hc.le (fun c hc'=>⟨(hg c hc').1,(hg c hc').2.1⟩) ho (by omega) hpq;omega
        . exact hc.apart p q hpq (by omega)⟩
       have e1:fV ⟨(yg l ord k).to,fc (yg l ord k)⟩=some (ea (yg l ord k)):=by
        unfold fV;simp only;rw[fm (by omega) (by unfold ea at hgo;omega)];rfl
       have e2:i64.wrap ((k:Int)+1)=((k+1:Nat):Int):=dk hlt (by omega);obtain⟨h0,hgp⟩:=hgap;have he:e<ea (yg l ord k)\/e=(yg l ord k).to/\e<ea (yg l ord k):=.inl (by unfold ea;omega);have he':e<ea (yg l ord k):=by unfold ea;omega
       rcases hgp with⟨rfl,hcov⟩|⟨hg0,hge,hcov,hnot,hcand⟩
       . by_cases h2:(yg l ord k).to>e
         . simp only[h2,if_true,aa,show((-1:Int)<0)=True by simp,decide_true,e1,e2];refine⟨l.length-(k+1),_,rfl,by omega,k+1,_,e,rfl,rfl,by omega,hnew,by omega,.inr ⟨h0,he',fun o h3 h4=>?_,fun p hp'=>?_,?_⟩⟩
           . obtain⟨p,h5,h6⟩:=hcov o h3 h4;exact⟨p,by omega,h6⟩
           . by_cases hpk:p=k
             . subst hpk;omega
             . have:=hc.le (fun c hc'=>⟨(hg c hc').1,(hg c hc').2.1⟩) ho (by omega) (p:=p) (by omega);omega
           . by_cases hk0:k=0
             . exact .inl (hc.zero hk0)
             . exact .inr ⟨k-1,by omega,hc.last (k-1) (by omega)⟩
         . simp only[h2,if_false,aa,aI,e1,e2];refine⟨l.length-(k+1),_,rfl,by omega,k+1,_,-1,rfl,rfl,by omega,hnew,by omega,.inl ⟨rfl,fun o h3 h4=>?_⟩⟩;by_cases h5:o<e
           . obtain⟨p,h6,h7⟩:=hcov o h3 h5;exact⟨p,by omega,h7⟩
           . exact⟨k,by omega,by omega,h4⟩
       . have hng:¬ g<0:=by omega
         have hres:(if(yg l ord k).to>e then some (decide (g<0))else some false)=some false:=by
          split
          . rw[decide_eq_false hng]
          . rfl
         simp only[hres,aa,aI,if_false,e1,e2];refine⟨l.length-(k+1),_,rfl,by omega,k+1,_,g,rfl,rfl,by omega,hnew,by omega,.inr ⟨hg0,by omega,fun o h3 h4=>?_,fun p hp'=>?_,?_⟩⟩
         . obtain⟨p,h5,h6⟩:=hcov o h3 h4;exact⟨p,by omega,h6⟩
         . by_cases hpk:p=k
           . subst hpk;omega
           . exact hnot p (by omega)
         . rcases hcand with h|⟨p,h5,h6⟩
           . exact .inl h
           . exact .inr ⟨p,by omega,h6⟩
   . right;rw[if_neg (show ¬ ((k:Int),(0:Int),false,e,g).1<((ord.length:Nat):Int)by simp;omega)];have:k=l.length:=by omega
     subst this;exact⟨_,rfl,.inr ⟨e,g,rfl,hc,hgap⟩⟩) l.length (0,0,false,0,-1)
  ⟨0,0,-1,rfl,rfl,Nat.zero_le _,⟨fun _=>rfl,fun j hj=>by omega,fun p q h1 h2=>by omega⟩,Int.le_refl _,.inl ⟨rfl,fun o h1 h2=>by omega⟩⟩
 rcases hq with⟨_,_,rfl,hm⟩|⟨e,g,rfl,hc,h0,hgap⟩
 . left
   rw[hr]
   exact⟨hm,rfl⟩
 . right
   rw[hr]
   simp only[aa,pc]
   have hgl:∀c∈l,0<=c.to/\1<=fc c:=fun c hc'=>⟨(hg c hc').1,(hg c hc').2.1⟩
   refine⟨fun⟨i,j,hi,hj,hne,hov⟩=>?_,?_⟩
   . obtain⟨p,hp1,hp2⟩:=ho.adT hi
     obtain⟨q,hq1,hq2⟩:=ho.adT hj
     have hpq:p≠q:=fun h=>hne (by rw[<- hp2,<- hq2,h])
     have k1:cat l i=yg l ord p:=by unfold yg;rw[hp2]
     have k2:cat l j=yg l ord q:=by unfold yg;rw[hq2]
     rw[k1,k2]at hov
     unfold ov at hov
     rw[au]at hov
     rcases Nat.lt_or_gt_of_ne hpq with h|h
     . have:=hc.apart p q h hq1;omega
     . have:=hc.apart q p h hp1;omega
   . rcases hgap with⟨rfl,hcov⟩|⟨hg0,hge,hcov,hnot,hcand⟩
     . rw[if_neg (by omega)]
       refine⟨e,rfl,h0,fun o h1 h2=>?_,fun⟨c,hcl,h1,h2⟩=>?_,?_⟩
       . obtain⟨p,h3,h4⟩:=hcov o h1 h2
         exact⟨_,ho.mem h3,h4⟩
       . obtain⟨k,hk,rfl⟩:=ho.any hcl
         have:=hc.le hgl ho (Nat.le_refl _) hk
         omega
       . by_cases hk0:l.length=0
         . exact .inl (hc.zero hk0)
         . exact .inr ⟨_,ho.mem (k:=l.length-1) (by omega),hc.last (l.length-1) (by omega)⟩
     . rw[if_pos (by omega)]
       refine⟨g,rfl,hg0,fun o h1 h2=>?_,fun⟨c,hcl,h1,h2⟩=>?_,?_⟩
       . obtain⟨p,h3,h4⟩:=hcov o h1 h2
         exact⟨_,ho.mem h3,h4⟩
       . obtain⟨k,hk,rfl⟩:=ho.any hcl
         exact hnot k hk ⟨h1,h2⟩
       . rcases hcand with h|⟨p,h3,h4⟩
         . exact .inl h
         . exact .inr ⟨_,ho.mem h3,h4⟩
end
end G
end Go.Proofs.YtekpafdhgkocaaaGreat
namespace Go.Proofs.YtekpafdhgkocaaaGreat
open IntKind(i64)
open G
namespace G
theorem DD{l:List bN}:Ca l↔∃i,i<l.length/\Ro l i=true:=by
 have key:∀i j,i<l.length->j<i->ov (cat l i) (cat l j)=true->∃i,i<l.length/\Ro l i=true:=fun i j hi hj h=>by
  refine⟨i,hi,?_⟩;unfold Ro;rw[bH];refine⟨cat l j,?_,h⟩;rw[bX (by omega)];exact List.mem_take_iff_getElem.2 ⟨j,by omega,rfl⟩
 constructor
 . rintro⟨i,j,hi,hj,hne,h⟩;rcases Nat.lt_or_gt_of_ne hne with k|k
   . exact key j i hj k (by rw[PE];exact h)
   . exact key i j hi k h
 . rintro⟨i,hi,h⟩;unfold Ro at h;rw[bH]at h;obtain⟨c,hc,h⟩:=h;obtain⟨j,hj,rfl⟩:=List.mem_take_iff_getElem.1 hc;refine⟨i,j,hi,by omega,by omega,?_⟩;rw[bX (i:=j) (by omega)];exact h
section
variable {d:bZ}
theorem LZ(hg:∀c∈d.bO,Good d c)(hn:d.bO.length<=17592186044416){i:Nat}(hi:i<d.bO.length):
 Iter (mQ d.bO (i:Int) (d.bO.take i)) 0=some (if Ro d.bO i=true then .inr (i:Int)else .inl ((i+1:Nat):Int)):=by
 have hl:(d.bO.take i).length=i:=by simp;omega
 have hK:=jd (f:=mQ d.bO (i:Int) (d.bO.take i)) (d.bO.take i) (fun c=>ov (cat d.bO i) c) (fun k=>(k:Int)) (fun _=>.inr (i:Int)) (.inl ((i+1:Nat):Int))
  (fun k h hb=>by
   obtain⟨e,he⟩:=Ky (hg _ (A6 hi)) (hg _ (List.mem_of_mem_take (aA h)));unfold mQ;rw[if_pos (by omega),cN h,dD default hi];simp only[aa,vL,he,hb,aI,if_false];rw[dk (n:=17592186044417) (by omega) (by omega)])
  (fun k h hb=>by
   obtain⟨e,he⟩:=Ky (hg _ (A6 hi)) (hg _ (List.mem_of_mem_take (aA h)));unfold mQ;rw[if_pos (by omega),cN h,dD default hi];simp only[aa,vL,he,hb,if_true])
  (by unfold mQ;rw[if_neg (by omega),dk (n:=17592186044417) (by omega) (by omega)]) (s:=0) rfl
 rcases hK with⟨ha,he⟩|⟨k,h,hb,_,he⟩
 . rw[he,if_neg]
   unfold Ro;rw[bH]
   rintro⟨c,hc,h⟩
   rw[ha c hc]at h;cases h
 . rw[he,if_pos]
   unfold Ro;rw[bH]
   exact⟨_,aA h,hb⟩
theorem Jg(hg:∀c∈d.bO,Good d c)(hn:d.bO.length<=17592186044416){i:Nat}(hi:i<d.bO.length):
 Iter (je d (i:Int)) 0=some (if Ro d.bO i=true then .inr (.inr (4,(i:Int)))else .inl ((i+1:Nat):Int)):=by
 have hl:(d.bO.take i).length=i:=by simp;omega
 have hK:=jd (f:=je d (i:Int)) (d.bO.take i) (fun c=>ov (cat d.bO i) c) (fun k=>(k:Int)) (fun _=>.inr (.inr (4,(i:Int)))) (.inl ((i+1:Nat):Int))
  (fun k h hb=>by
   obtain⟨e,he,he2⟩:=I7 (hg _ (A6 hi)) (hg _ (List.mem_of_mem_take (aA h)));have hk:(d.bO.take i)[k]=d.bO[k]'(by omega):=List.getElem_take;rw[hk]at he he2 hb;unfold je;rw[if_pos (by omega),dD default hi,cN (show k<d.bO.length by omega)];simp only[aa,yp,he];rw[if_neg (by rw[hb]at he2;simpa using he2),dk (n:=17592186044417) (by omega) (by omega)])
  (fun k h hb=>by
   obtain⟨e,he,he2⟩:=I7 (hg _ (A6 hi)) (hg _ (List.mem_of_mem_take (aA h)));have hk:(d.bO.take i)[k]=d.bO[k]'(by omega):=List.getElem_take;rw[hk]at he he2 hb;unfold je;rw[if_pos (by omega),dD default hi,cN (show k<d.bO.length by omega)];simp only[aa,yp,he];rw[if_pos (by rw[hb]at he2;simpa using he2)])
  (by unfold je;rw[if_neg (by omega),dk (n:=17592186044417) (by omega) (by omega)]) (s:=0) rfl
 rcases hK with⟨ha,he⟩|⟨k,h,hb,_,he⟩
 . rw[he,if_neg]
   unfold Ro;rw[bH]
   rintro⟨c,hc,h⟩
   rw[ha c hc]at h;cases h
 . rw[he,if_pos]
   unfold Ro;rw[bH]
   exact⟨_,aA h,hb⟩
def Dl(l:List bN)(i:Nat):Prop:=i<l.length/\Ro l i=true/\∀j,j<i->Ro l j=false
theorem Dl.unique{l:List bN}{i j:Nat}(h:Dl l i)(k:Dl l j):i=j:=by
 rcases Nat.lt_trichotomy i j with q|q|q
 . have:=k.2.2 i q;rw[h.2.1]at this;cases this
 . exact q
 . have:=h.2.2 j q;rw[k.2.1]at this;cases this
theorem Ts(hg:∀c∈d.bO,Good d c)(hn:d.bO.length<=17592186044416)(hm:Ca d.bO):
 ∃i,Dl d.bO i/\wy d.bO=some (i:Int):=by
 have hK:=jd (f:=oU d.bO) (List.range d.bO.length) (fun i=>Ro d.bO i) (fun k=>(k:Int)) (fun k=>(k:Int)) (-1)
  (fun k h hb=>by
   simp at h hb;unfold oU;rw[if_pos (by omega),AG (by omega)];simp only[aa,aM];rw[LZ hg hn h,hb];rfl)
  (fun k h hb=>by
   simp at h hb;unfold oU;rw[if_pos (by omega),AG (by omega)];simp only[aa,aM];rw[LZ hg hn h,hb];rfl)
  (by unfold oU;simp) (s:=0) rfl
 unfold wy
 rcases hK with⟨ha,he⟩|⟨k,h,hb,hj,he⟩
 . obtain⟨i,hi,h⟩:=DD.1 hm
   have:=ha i (List.mem_range.2 hi)
   rw[h]at this;cases this
 . simp at h hb
   exact⟨k,⟨h,hb,fun j hjk=>by simpa using hj j hjk⟩,he⟩
theorem CO(hg:∀c∈d.bO,Good d c)(hn:d.bO.length<=17592186044416):
 (¬ Ca d.bO/\Iter (gy d) 0=some (.inl ()))\/(Ca d.bO/\∃i,Dl d.bO i/\Iter (gy d) 0=some (.inr (4,(i:Int)))):=by
 have hK:=jd (f:=gy d) (List.range d.bO.length) (fun i=>Ro d.bO i) (fun k=>(k:Int)) (fun k=>.inr (4,(k:Int))) (.inl ())
  (fun k h hb=>by
   simp at h hb;unfold gy;rw[if_pos (by omega),Jg hg hn h,hb];rfl)
  (fun k h hb=>by
   simp at h hb;unfold gy;rw[if_pos (by omega),Jg hg hn h,hb];rfl)
  (by unfold gy;simp) (s:=0) rfl
 rcases hK with⟨ha,he⟩|⟨k,h,hb,hj,he⟩
 . refine .inl ⟨fun hm=>?_,he⟩
   obtain⟨i,hi,h⟩:=DD.1 hm
   have:=ha i (List.mem_range.2 hi)
   rw[h]at this;cases this
 . simp at h hb
   exact .inr ⟨DD.2 ⟨k,h,hb⟩,k,⟨h,hb,fun j hjk=>by simpa using hj j hjk⟩,he⟩
theorem Kw(hg:∀c∈d.bO,Good d c)(hn:d.bO.length<=17592186044416)(o:Int):∃r,lM d o=some r/\(r<0↔¬ Sa d.bO o)/\(0<=r->∃k:Nat,∃h:k<d.bO.length,r=(k:Int)/\d.bO[k].to<=o/\o<ea d.bO[k]):=by
 have hh:∀c∈d.bO,uU c o=some (decide (c.to<=o/\o<ea c)):=fun c hc=>by
  have h1:=hg c hc;unfold uU yA;have:=h1.IX;have:=h1.max;have:=h1.qF;simp only[yp,aa];unfold ea at*
  rw[fm (by omega) (by omega)];by_cases h:o≥c.to
  . rw[if_pos h];simp only[aa];congr 1;rw[aW];omega
  . rw[if_neg h];simp only[aa];congr 1;symm;rw[bh];omega
 have hK:=jd (f:=nj d o) d.bO (fun c=>decide (c.to<=o/\o<ea c)) (fun k=>(k:Int)) (fun k=>(k:Int)) (-1)
  (fun k h hb=>by
   unfold nj;rw[if_pos (by omega),cN h];simp only[aa,hh _ (aA h),hb,aI,if_false];rw[dk (n:=17592186044417) (by omega) (by omega)])
  (fun k h hb=>by
   unfold nj;rw[if_pos (by omega),cN h];simp only[aa,hh _ (aA h),hb,if_true])
  (by unfold nj;simp) (s:=0) rfl
 unfold lM;rcases hK with⟨ha,he⟩|⟨k,h,hb,hj,he⟩
 . refine⟨-1,he,?_,fun h=>by omega⟩;refine⟨fun _ ⟨c,hc,h⟩=>?_,fun _=>by omega⟩;have:=ha c hc;simp only[bh]at this;exact this h
 . refine⟨(k:Int),he,⟨fun h=>by omega,fun hnc=>absurd ⟨_,aA h,by simpa using hb⟩ hnc⟩,fun _=>⟨k,h,rfl,by simpa using hb⟩⟩
theorem Xj(hg:∀c∈d.bO,Good d c)(hn:d.bO.length<=17592186044416)(o:Int):∃r,lM d o=some r/\(r<0↔¬ Sa d.bO o):=by
 obtain⟨r,h1,h2,_⟩:=Kw hg hn o;exact⟨r,h1,h2⟩
theorem J7(hg:∀c∈d.bO,Good d c)(hn:d.bO.length<=17592186044416){t:Int}(ht:T1 d.bO t):
 uS d=some (if t<d.b6 then t else -1):=by
 unfold uS
 obtain⟨r,hr,hq⟩:=ck (f:=uT d)
  (fun m st=>∃(k:Nat) (out:Int),st=(out,(k:Int)-1)/\m=d.bO.length+1-k/\k<=d.bO.length+1/\(out= -1\/(t<=out/\out<d.b6))/\(t<d.b6->(0<k/\t=0\/∃j,j+1<k/\t=ea (cat d.bO j))->out=t))
  (fun r=>r=if t<d.b6 then t else -1) (by
   rintro m st ⟨k,out,rfl,rfl,hk,h1,h2⟩;unfold uT;by_cases hlt:k<d.bO.length+1
   . left;rw[if_pos (show(out,(k:Int)-1).2<(d.bO.length:Int)by simp;omega)];obtain⟨v,hv,hv0,hvc⟩:∃v,(if(out,(k:Int)-1).2≥0 then(idx d.bO (out,(k:Int)-1).2).bind fun x2=>(idx d.bO (out,(k:Int)-1).2).bind fun x3=>(kY x3).bind fun y2=>some (i64.wrap (x2.to+y2))else some 0)=some v/\0<=v/\(k=0/\v=0\/∃j,j+1=k/\v=ea (cat d.bO j)):=by
      by_cases hk0:k=0
      . subst hk0;exact⟨0,by rw[if_neg (by simp)],Int.le_refl _,.inl ⟨rfl,rfl⟩⟩
      . have hgo:=hg _ (A6 (l:=d.bO) (i:=k-1) (by omega));rw[if_pos (by simp;omega)];simp only[uo (k:=k-1) default (show(k:Int)-1=((k-1:Nat):Int)by omega) (show k-1<d.bO.length by omega),aa,JW];have:=hgo.IX;have:=hgo.max;have:=hgo.qF;refine⟨ea (cat d.bO (k-1)),?_,by unfold ea at *; omega,.inr ⟨k-1,by omega,rfl⟩⟩;unfold ea at*
        show some (i64.wrap ((cat d.bO (k-1)).to+fc (cat d.bO (k-1))))=_;rw[fm (by omega) (by omega)]
     rw[hv];obtain⟨f,hf,hfc⟩:=Xj hg hn v;obtain⟨b,hb,hbi⟩:∃b,(if v<d.b6 then(lM d v).bind fun y1=>if y1<0 then(if(out,(k:Int)-1).1<0 then some true else some (decide (v<(out,(k:Int)-1).1)))else some false else some false)=some b/\(b=true↔v<d.b6/\¬ Sa d.bO v/\(out<0\/v<out)):=by
      by_cases c1:v<d.b6
      . rw[if_pos c1,hf];simp only[aa];by_cases c2:f<0
        . rw[if_pos c2];have c2':=hfc.1 c2;by_cases c3:out<0
          . exact⟨true,by rw[if_pos c3],by simp[c1,c2',c3]⟩
          . exact⟨_,by rw[if_neg c3],by simp[c1,c2',c3]⟩
        . exact⟨false,by rw[if_neg c2],by simp only[aI,false_iff];exact fun h=>c2 (hfc.2 h.2.1)⟩
      . exact⟨false,by rw[if_neg c1],by simp[c1]⟩
     simp only[aa];rw[hb];simp only[aa];have hw:i64.wrap ((k:Int)-1+1)=((k+1:Nat):Int)-1:=by rw[fm (by omega) (by omega)];omega
     have hvt:¬ Sa d.bO v->t<=v:=fun h=>by
      refine Int.not_lt.1 fun hlt'=>h (ht.cov v hv0 hlt')
     by_cases hbt:b=true
     . have hb':=hbi.1 hbt;rw[if_pos hbt,hw];refine⟨d.bO.length+1-(k+1),_,rfl,by omega,k+1,v,rfl,rfl,by omega,.inr ⟨hvt hb'.2.1,hb'.1⟩,fun htn hc=>?_⟩;have h3:=hvt hb'.2.1;have key:(0<k/\t=0\/∃j,j+1<k/\t=ea (cat d.bO j))->v=t:=fun hc=>by
        have q1:=h2 htn hc;have q2:=ht.pos;have q3:=hb'.2.2;clear hvc hc h2;omega
       rcases hc with⟨_,h0⟩|⟨j,hj,hjt⟩
       . rcases hvc with⟨h4,h5⟩|⟨j,h4,h5⟩
         . omega
         . exact key (.inl ⟨by omega,h0⟩)
       . by_cases hjk:j+1=k
         . rcases hvc with⟨h4,h5⟩|⟨j',h4,h5⟩
           . omega
           . have:j'=j:=by omega
             subst this;omega
         . exact key (.inr ⟨j,by omega,hjt⟩)
     . have hb':=fun h=>hbt (hbi.2 h)
       rw[if_neg hbt,hw];refine⟨d.bO.length+1-(k+1),_,rfl,by omega,k+1,out,rfl,rfl,by omega,h1,fun htn hc=>?_⟩;have hvis:v=t->out=t:=fun hvt'=>by
        have:=ht.pos;have h6:¬ (out<0\/v<out):=fun h=>hb' ⟨by clear hvc hc h2;omega,by rw[hvt'];exact ht.not,h⟩
        clear hvc hc h2;omega
       rcases hc with⟨_,h0⟩|⟨j,hj,hjt⟩
       . rcases hvc with⟨h4,h5⟩|⟨j,h4,h5⟩
         . exact hvis (by omega)
         . exact h2 htn (.inl ⟨by omega,h0⟩)
       . by_cases hjk:j+1=k
         . rcases hvc with⟨h4,h5⟩|⟨j',h4,h5⟩
           . omega
           . have:j'=j:=by omega
             subst this;exact hvis (by omega)
         . exact h2 htn (.inr ⟨j,by omega,hjt⟩)
   . right;rw[if_neg (show ¬ (out,(k:Int)-1).2<(d.bO.length:Int)by simp;omega)];refine⟨_,rfl,?_⟩;by_cases htn:t<d.b6
     . rw[if_pos htn];refine h2 htn ?_;rcases ht.aft with h|⟨c,hc,h⟩
       . exact .inl ⟨by omega,h⟩
       . obtain⟨i,hi,rfl⟩:=Kg hc;exact .inr ⟨i,by omega,h⟩
     . rw[if_neg htn];rcases h1 with h|h
       . exact h
       . omega) (d.bO.length+1) ((-1),(-1))
  ⟨0,-1,by simp,by omega,by omega,.inl rfl,fun _ h=>by rcases h with h|⟨j,h,_⟩<;>omega⟩
 rw[hr,hq]
end
def M8(d:bZ):Prop:=0<=d.cg/\d.cg<=4611686018427387903/\0<=d.b6/\d.b6<=4611686018427387903
instance (d:bZ):Decidable (M8 d):=by unfold M8;infer_instance
def Qa(d:bZ)(e p:Int):Prop:=
 (¬ M8 d/\e=2/\p= -1)\/(M8 d/\∃i,i<d.bO.length/\(∀j,j<i->Good d (cat d.bO j))/\¬ Good d (cat d.bO i)/\e=RV d (cat d.bO i)/\p=i)\/
 (M8 d/\(∀c∈d.bO,Good d c)/\Ca d.bO/\∃i:Nat,Dl d.bO i/\e=4/\p=i)\/
 (M8 d/\(∀c∈d.bO,Good d c)/\¬ Ca d.bO/\∃t,T1 d.bO t/\((t<d.b6/\e=3/\p=t)\/(¬ t<d.b6/\e=0/\p=0)))
theorem Si{d:bZ}(hn:d.bO.length<=17592186044416):∃e p,Qa d e p/\uj d=some ⟨e,p⟩/\g9 d=some (e,p):=by
 have h1:((qA d.cg).bind fun y4=>if y4=false then some true else(qA d.b6).bind fun y5=>some (!y5))=some (decide (¬ M8 d)):=by
  unfold qA M8;simp only[Qf,aa];by_cases a:P2 0 d.cg=true
  . rw[a,if_neg (by simp)];congr 1;have a':=zH.1 a;by_cases b:P2 0 d.b6=true
    . have b':=zH.1 b;rw[b];symm;exact decide_eq_false (fun h=>h (by omega))
    . have b':=fun h=>b (zH.2 h)
      rw[show P2 0 d.b6=false by simpa using b];symm;exact aH (fun h=>b' (by omega))
  . have a':=fun h=>a (zH.2 h)
    rw[show P2 0 d.cg=false by simpa using a,if_pos rfl];congr 1;symm;exact aH (fun h=>a' (by omega))
 have h2:(if d.cg<0 then some true else if d.b6<0 then some true else(fu).bind fun y6=>if d.cg>y6 then some true else(fu).bind fun y7=>some (decide (d.b6>y7)))=some (decide (¬ M8 d)):=by
  unfold fu M8;simp only[aa];split
  . congr 1;symm;rw[au];omega
  . split
    . congr 1;symm;rw[au];omega
    . split
      . congr 1;symm;rw[au];omega
      . congr 1;rw[aW];omega
 unfold uj g9;rw[h1,h2];by_cases hr:M8 d
 . simp only[hr,not_true_eq_false,decide_false,aa,aI,if_false];have hA:=jd (f:=q9 d) d.bO (fun c=>decide (RV d c≠0)) (fun k=>(k:Int)) (fun k=>.inr (⟨RV d (cat d.bO k),(k:Int)⟩:sQ)) (.inl ())
    (fun k h hb=>by
     unfold q9;rw[if_pos (by omega),cN h];simp only[aa,Od];rw[if_neg (by simpa using hb),dk (n:=17592186044417) (by omega) (by omega)])
    (fun k h hb=>by
     unfold q9;rw[if_pos (by omega),cN h];simp only[aa,Od];rw[if_pos (by simpa using hb),bX h])
    (by unfold q9;simp) (s:=0) rfl
   have hB:=jd (f:=eM d) d.bO (fun c=>decide (RV d c≠0)) (fun k=>(k:Int)) (fun k=>.inr (RV d (cat d.bO k),(k:Int))) (.inl ())
    (fun k h hb=>by
     unfold eM;rw[if_pos (by omega),cN h];simp only[aa,BG];rw[if_neg (by simpa using hb),dk (n:=17592186044417) (by omega) (by omega)])
    (fun k h hb=>by
     unfold eM;rw[if_pos (by omega),cN h];simp only[aa,BG];rw[if_pos (by simpa using hb),bX h])
    (by unfold eM;simp) (s:=0) rfl
   rcases hA with⟨ha,he⟩|⟨k,h,hb,hj,he⟩
   . rcases hB with⟨_,hf⟩|⟨k,h,hb,_,_⟩
     . have hg:∀c∈d.bO,Good d c:=fun c hc=>yN.1 (by simpa using ha c hc)
       simp only[he,hf,aa,pc];rcases ZQ (l:=d.bO) (fun c hc=>⟨(hg c hc).IX,(hg c hc).qF,(hg c hc).max⟩) hn with⟨hm,ht⟩|⟨hm,t,ht,hte⟩
       . obtain⟨i,hi,ho⟩:=Ts hg hn hm;rcases CO hg hn with⟨hm',_⟩|⟨_,j,hj,ho'⟩
         . exact absurd hm hm'
         . have:=hi.unique hj;subst this;refine⟨4,(i:Int),.inr (.inr (.inl ⟨hr,hg,hm,i,hi,rfl,rfl⟩)),?_,?_⟩
           . rw[ht];simp only[aa,if_true,ho]
           . rw[ho'];rfl
       . rcases CO hg hn with⟨_,ho'⟩|⟨hm',_⟩
         . have:=hte.pos;by_cases hlt:t<d.b6
           . refine⟨3,t,.inr (.inr (.inr ⟨hr,hg,hm,t,hte,.inl ⟨hlt,rfl,rfl⟩⟩)),?_,?_⟩
             . rw[ht];simp[hlt]
             . rw[ho'];simp only[aa,pc,J7 hg hn hte,if_pos hlt];rw[if_pos (by omega)]
           . refine⟨0,0,.inr (.inr (.inr ⟨hr,hg,hm,t,hte,.inr ⟨hlt,rfl,rfl⟩⟩)),?_,?_⟩
             . rw[ht];simp[hlt]
             . rw[ho'];simp only[aa,pc,J7 hg hn hte,if_neg hlt];rw[if_neg (by omega)]
         . exact absurd hm' hm
     . have:=ha _ (aA h);rw[hb]at this;cases this
   . rcases hB with⟨ha,_⟩|⟨k',h',hb',hj',hf⟩
     . have:=ha _ (aA h);rw[hb]at this;cases this
     . have:k=k':=by
        rcases Nat.lt_trichotomy k k' with q|q|q
        . have:=hj' k q;rw[hb]at this;cases this
        . exact q
        . have:=hj k' q;rw[hb']at this;cases this
       subst this;refine⟨RV d (cat d.bO k),(k:Int),.inr (.inl ⟨hr,k,h,fun j hjk=>?_,?_,rfl,rfl⟩),?_,?_⟩
       . rw[bX (by omega)];exact yN.1 (by simpa using hj j hjk)
       . rw[bX h];exact Zx.1 (by simpa using hb)
       . rw[he];rfl
       . rw[hf];rfl
 . exact⟨2,-1,.inl ⟨hr,rfl,rfl⟩,by simp[hr],by simp[hr]⟩
structure VD(d:bZ):Prop where
 UZ:M8 d
 tR:∀c∈d.bO,Good d c
 apart:¬ Ca d.bO
 full:∀o,0<=o->o<d.b6->Sa d.bO o
theorem Qa.zero{d:bZ}{e p:Int}(h:Qa d e p):(e=0↔VD d)/\(e=0->p=0):=by
 rcases h with⟨h1,rfl,rfl⟩|⟨h1,i,hi,_,hb,rfl,rfl⟩|⟨h1,h2,h3,i,_,rfl,rfl⟩|⟨h1,h2,h3,t,ht,⟨h4,rfl,rfl⟩|⟨h4,rfl,rfl⟩⟩
 . exact⟨⟨fun h=>by omega,fun h=>absurd h.UZ h1⟩,fun h=>by omega⟩
 . exact⟨⟨fun h=>absurd (yN.1 h) hb,fun h=>absurd (h.tR _ (A6 hi)) hb⟩,fun h=>absurd (yN.1 h) hb⟩
 . exact⟨⟨fun h=>by omega,fun h=>absurd h3 h.apart⟩,fun h=>by omega⟩
 . exact⟨⟨fun h=>by omega,fun h=>absurd (h.full p ht.pos h4) ht.not⟩,fun h=>by omega⟩
 . exact⟨⟨fun _=>⟨h1,h2,h3,fun o h5 h6=>ht.cov o h5 (by omega)⟩,fun _=>rfl⟩,fun _=>rfl⟩
theorem acU{d:bZ}(hg:∀c∈d.bO,Good d c):∃t,T1 d.bO t:=by
 have hbig:∃n:Nat,¬ Sa d.bO (n:Int):=⟨4611686018427387904,fun⟨c,hc,_,h2⟩=>by have:=(hg c hc).max;omega⟩;have hmin:∀n:Nat,¬ Sa d.bO (n:Int)->∃m:Nat,¬ Sa d.bO (m:Int)/\∀k,k<m->Sa d.bO (k:Int):=fun n=>by
  induction n using Nat.strongRecOn with
  |_ n ih=>
   intro h
   by_cases hc:∀k,k<n->Sa d.bO (k:Int)
   . exact⟨n,h,hc⟩
   . obtain⟨k,hk⟩:=Classical.not_forall.1 hc
     rw[Classical.not_imp]at hk
     exact ih k hk.1 hk.2
 obtain⟨n,hn⟩:=hbig;obtain⟨m,h1,h2⟩:=hmin n hn;refine⟨(m:Int),by omega,fun o h3 h4=>?_,h1,?_⟩
 . have:=h2 o.toNat (by omega);rw[Int.toNat_of_nonneg h3]at this;exact this
 . cases m with
   |zero=>exact .inl rfl
   |succ m=>
    obtain⟨c,hc,k1,k2⟩:=h2 m (by omega)
    refine .inr ⟨c,hc,?_⟩
    refine aP fun he=>h1 ⟨c,hc,by omega,by omega⟩
theorem Z4{d:bZ}(hn:d.bO.length<=17592186044416):∃e p,Qa d e p/\g9 d=some (e,p):=by
 have h2:(if d.cg<0 then some true else if d.b6<0 then some true else(fu).bind fun y6=>if d.cg>y6 then some true else(fu).bind fun y7=>some (decide (d.b6>y7)))=some (decide (¬ M8 d)):=by
  unfold fu M8;simp only[aa];split
  . congr 1;symm;rw[au];omega
  . split
    . congr 1;symm;rw[au];omega
    . split
      . congr 1;symm;rw[au];omega
      . congr 1;rw[aW];omega
 unfold g9;rw[h2];by_cases hr:M8 d
 . simp only[hr,not_true_eq_false,decide_false,aa,aI,if_false];have hB:=jd (f:=eM d) d.bO (fun c=>decide (RV d c≠0)) (fun k=>(k:Int)) (fun k=>.inr (RV d (cat d.bO k),(k:Int))) (.inl ())
    (fun k h hb=>by
     unfold eM;rw[if_pos (by omega),cN h];simp only[aa,BG];rw[if_neg (by simpa using hb),dk (n:=17592186044417) (by omega) (by omega)])
    (fun k h hb=>by
     unfold eM;rw[if_pos (by omega),cN h];simp only[aa,BG];rw[if_pos (by simpa using hb),bX h])
    (by unfold eM;simp) (s:=0) rfl
   rcases hB with⟨ha,hf⟩|⟨k,h,hb,hj,hf⟩
   . have hg:∀c∈d.bO,Good d c:=fun c hc=>yN.1 (by simpa using ha c hc)
     simp only[hf,aa,pc];rcases CO hg hn with⟨hm,ho'⟩|⟨hm,j,hj,ho'⟩
     . obtain⟨t,hte⟩:=acU hg;have:=hte.pos;by_cases hlt:t<d.b6
       . refine⟨3,t,.inr (.inr (.inr ⟨hr,hg,hm,t,hte,.inl ⟨hlt,rfl,rfl⟩⟩)),?_⟩;rw[ho'];simp only[aa,pc,J7 hg hn hte,if_pos hlt];rw[if_pos (by omega)]
       . refine⟨0,0,.inr (.inr (.inr ⟨hr,hg,hm,t,hte,.inr ⟨hlt,rfl,rfl⟩⟩)),?_⟩;rw[ho'];simp only[aa,pc,J7 hg hn hte,if_neg hlt];rw[if_neg (by omega)]
     . refine⟨4,(j:Int),.inr (.inr (.inl ⟨hr,hg,hm,j,hj,rfl,rfl⟩)),?_⟩;rw[ho'];rfl
   . refine⟨RV d (cat d.bO k),(k:Int),.inr (.inl ⟨hr,k,h,fun j hjk=>?_,?_,rfl,rfl⟩),?_⟩
     . rw[bX (by omega)];exact yN.1 (by simpa using hj j hjk)
     . rw[bX h];exact Zx.1 (by simpa using hb)
     . rw[hf];rfl
 . exact⟨2,-1,.inl ⟨hr,rfl,rfl⟩,by simp[hr]⟩
theorem KC{d:bZ}(hn:d.bO.length<=17592186044416):∃b,jU d=some b/\(b=true↔VD d):=by
 obtain⟨e,p,h1,h3⟩:=Z4 hn;unfold jU;rw[h3];simp only[aa];exact⟨decide (e=0),by congr 1,by rw[au];exact h1.zero.1⟩
theorem I3{d:bZ}(hn:d.bO.length<=17592186044416)(h:VD d):uj d=some ⟨0,0⟩/\g9 d=some (0,0):=by
 obtain⟨e,p,h1,h2,h3⟩:=Si hn;have he:=h1.zero.1.2 h;have hp:=h1.zero.2 he;subst he hp;exact⟨h2,h3⟩
theorem Vw{d:bZ}(hn:d.bO.length<=17592186044416):∃b,re d=some b/\jU d=some b/\(b=true↔VD d):=by
 obtain⟨e,p,h1,h2,h3⟩:=Si hn;unfold re jU;rw[h2,h3];simp only[aa];refine⟨decide (e=0),?_,?_,by rw[au];exact h1.zero.1⟩
 . congr 1;rw[aW];exact⟨fun h=>h.1,fun h=>⟨h,h1.zero.2 h⟩⟩
 . congr 1
end G
end Go.Proofs.YtekpafdhgkocaaaGreat
namespace Go.Proofs.YtekpafdhgkocaaaGreat
open IntKind(i64)
open G
namespace G
def SU(d:bZ):Bool:=d.bO.all (fun c=>decide (c.data.length<=300))&&decide (d.bO.length<=40)
theorem Oo(d:bZ)(hn:d.bO.length<=9223372036854775807):o8 d=some (SU d):=by
 unfold o8 SU;have hK:=jd (f:=nQ d) d.bO (fun c=>!decide (c.data.length<=300)) (fun k=>(k:Int)) (fun _=>.inr false) (.inl ())
  (fun k h hb=>by
   unfold nQ;rw[if_pos (by omega),cN h];simp only[aa];simp at hb;rw[if_neg (by omega),dk h hn])
  (fun k h hb=>by
   unfold nQ;rw[if_pos (by omega),cN h];simp only[aa];simp at hb;rw[if_pos (by omega)])
  (by unfold nQ;rw[if_neg (by omega)]) (s:=0) rfl
 rcases hK with⟨ha,he⟩|⟨k,h,hb,_,he⟩
 . have:d.bO.all (fun c=>decide (c.data.length<=300))=true:=by rw[aR];intro x hx;simpa using ha x hx
   rw[he,this];simp only[aa,pc,Bool.true_and];congr 1;rw[aW];omega
 . have:d.bO.all (fun c=>decide (c.data.length<=300))=false:=by rw[List.all_eq_false];exact⟨_,aA h,by simpa using hb⟩
   rw[he,this];rfl
theorem QE{d:bZ}:SU d=true↔(∀c∈d.bO,c.data.length<=300)/\d.bO.length<=40:=by
 unfold SU;rw[aq,aR,au];simp
theorem Vo(l:List UInt8)(h:l.length<=140737488355328):fg l=some l:=by
 unfold fg;rw[dj (by simpa using h)]
 cases l with
 |nil=>exact EO _
 |cons a l=>rfl
theorem Ku(c:bN)(h:c.data.length<=140737488355328):qz c=some c:=by
 unfold qz;rw[Vo _ h];rfl
theorem Oz(d:bZ)(l:List bN)(h:∀c∈l,c.data.length<=140737488355328)(hn:l.length<=1000000000000):vS d l=some ⟨d.cg,d.b6,d.dv,d.du,l⟩:=by
 unfold vS;refine cb l.length (fun k=>((k:Int),d.cg,d.b6,d.dv,d.du,l.take k,0,0,(fun _=>0),(fun _=>0),[])) _ (fun k hk=>?_) ?_ rfl
 . unfold zS;rw[if_pos (by simp;omega)];simp only[cN hk,aa,Ku _ (h _ (aA hk))];rw[dj (by simp;omega)];simp only[aa,dk hk (by omega)];rw[aB hk]
 . unfold zS;rw[if_neg (by simp)];simp
theorem XB(d:bZ)(l:List bN)(h:∀c∈l,c.data.length<=140737488355328)(hn:l.length<=1000000000000):xL d l=some (d.cg,d.b6,d.dv,d.du,l):=by
 unfold xL;refine cb l.length (fun k=>((k:Int),d.cg,d.b6,d.dv,d.du,0,0,(fun _=>0),(fun _=>0),l.take k,[])) _ (fun k hk=>?_) ?_ rfl
 . unfold xg;rw[if_pos (by simp;omega)];simp only[cN hk,aa,Ku _ (h _ (aA hk))];rw[dj (by simp;omega)];simp only[aa,dk hk (by omega)];rw[aB hk]
 . unfold xg;rw[if_neg (by simp)];simp
theorem Xv(a b:bN):tE a b=some (decide (a=b)):=by
 unfold tE;obtain⟨a1,a2,a3,a4,a5⟩:=a;obtain⟨b1,b2,b3,b4,b5⟩:=b;simp only[bN.mk.injEq];by_cases h1:a1=b1
 . by_cases h2:a2=b2
   . by_cases h3:a3=b3
     . by_cases h4:a4=b4<;>simp[h1,h2,h3,h4]
     . simp[h1,h2,h3]
   . simp[h1,h2]
 . simp[h1]
theorem QZ{a b:List bN}(hl:a.length=b.length):(∀i,i<a.length->cat a i=cat b i)↔a=b:=by
 constructor
 . intro h;refine List.ext_getElem hl fun i h1 h2=>?_
   rw[<- bX h1,<- bX h2];exact h i h1
 . rintro rfl i _;rfl
theorem aaU{f:Int->Option (Int⊕Bool)}{a b:List bN}(hl:a.length=b.length)(hf:∀k:Nat,f (k:Int)=if k<a.length then some (if cat a k=cat b k then .inl ((k+1:Nat):Int)else .inr false)else some (.inr true)):Iter f 0=some (decide (a=b)):=by
 have hK:=jd (f:=f) (List.range a.length) (fun k=>decide (cat a k≠cat b k)) (fun k=>(k:Int)) (fun _=>false) true
  (fun k h hb=>by
   have hb':cat a k=cat b k:=by simpa using hb
   simp at h;rw[hf,if_pos h,if_pos hb'])
  (fun k h hb=>by
   have hb':¬ cat a k=cat b k:=by simpa using hb
   simp at h;rw[hf,if_pos h,if_neg hb'])
  (by rw[hf,if_neg (by simp)]) (s:=0) rfl
 rcases hK with⟨ha,he⟩|⟨k,h,hb,_,he⟩
 . rw[he];congr 1;symm;rw[au];exact(QZ hl).1 fun i hi=>by simpa using ha i (List.mem_range.2 hi)
 . simp at h hb;rw[he];congr 1;symm;rw[bh];exact fun e=>hb ((QZ hl).2 e k h)
theorem Xc(a b:List bN)(hn:a.length<=9223372036854775807):rh a b=some (decide (a=b)):=by
 unfold rh;by_cases hl:a.length=b.length
 . rw[if_neg (by simp;omega)];refine aaU hl fun k=>?_
   unfold zo;by_cases hk:k<a.length
   . rw[if_pos (by omega),if_pos hk,dD default hk,dD default (show k<b.length by omega)];simp only[aa,Xv];by_cases h:cat a k=cat b k
     . rw[if_neg (by simpa using h),if_pos h,dk hk hn]
     . rw[if_pos (by simpa using h),if_neg h]
   . rw[if_neg (by omega),if_neg hk]
 . rw[if_pos (by omega)];congr 1;symm;rw[bh];exact fun e=>hl (by rw[e])
def sm(a b:bZ):Bool:=decide (a.cg=b.cg)&&decide (a.b6=b.b6)&&jx a.dv b.dv&&jx a.du b.du&&decide (a.bO=b.bO)
theorem Xw(a b:bZ)(hn:a.bO.length<=9223372036854775807):qq a b=some (sm a b):=by
 unfold qq sm;rw[Xc _ _ hn];by_cases h1:a.cg=b.cg
 . by_cases h2:a.b6=b.b6
   . cases h3:jx a.dv b.dv
     . simp[h1,h2]
     . cases h4:jx a.du b.du<;>simp[h1,h2]
   . simp[h1,h2]
 . simp[h1]
theorem hash_self(f:Nat->UInt8):jx f f=true:=by unfold jx;rw[aR];intro i _;simp
theorem abN(a:bZ):sm a a=true:=by unfold sm;simp[hash_self]
end G
end Go.Proofs.YtekpafdhgkocaaaGreat
namespace Go.Proofs.YtekpafdhgkocaaaGreat
open IntKind(i64)
open G
namespace G
def Aj(l:List bN)(ord:List Int):List bN:=ord.map fun x=>cat l x.toNat
section
variable {l:List bN}{ord:List Int}
theorem yD(h:Ord l ord):(Aj l ord).Perm l:=by
 refine(h.perm.map _).trans ?_;have:(Kb l.length).map (fun x=>cat l x.toNat)=l:=by
  refine List.ext_getElem (by simp[Kb]) fun i h1 h2=>?_
  simp[Kb,h2]
 rw[this]
theorem yj(h:Ord l ord):(Aj l ord).length=l.length:=(yD h).length_eq
theorem Nz(h:Ord l ord){k:Nat}(hk:k<l.length):cat (Aj l ord) k=yg l ord k:=by
 have hl:=h.len;rw[bX (by rw[yj h];exact hk)];unfold Aj yg;rw[List.getElem_map];simp[show k<ord.length by omega]
end
section
variable {d:bZ}{ord:List Int}
def pos(d:bZ)(ord:List Int)(k:Nat):Int:=if k<d.bO.length then(yg d.bO ord k).to else d.b6
theorem KI(hv:VD d)(ho:Ord d.bO ord){p q:Nat}(hpq:p<q)(hq:q<d.bO.length):ea (yg d.bO ord p)<=(yg d.bO ord q).to:=by
 refine Int.not_lt.1 fun hlt=>hv.apart ?_
 have hle:=ho.le (Nat.le_of_lt hpq) hq;have gp:=hv.tR _ (ho.mem (k:=p) (by omega));have gq:=hv.tR _ (ho.mem hq);have h1:=ho.ix (k:=p) (by omega);have h2:=ho.ix hq;obtain⟨a1,a2⟩:=h1;obtain⟨b1,b2⟩:=h2;refine⟨(ord.getD p 0).toNat,(ord.getD q 0).toNat,by omega,by omega,fun e=>by have:=ho.inj (by omega) hq e;omega,?_⟩;show ov (yg d.bO ord p) (yg d.bO ord q)=true;unfold ov;rw[au];have:=gq.qF;refine⟨?_,hlt⟩;unfold ea;omega
theorem tiled(hv:VD d)(ho:Ord d.bO ord):pos d ord 0=0/\∀k,k<d.bO.length->pos d ord (k+1)=ea (yg d.bO ord k):=by
 have hN:=hv.UZ;unfold M8 at hN;constructor
 . unfold pos;split
   . rename_i hn;have g0:=hv.tR _ (ho.mem hn);have:=g0.IX;have:=g0.qF;have:=g0.fits;refine Int.le_antisymm (Int.not_lt.1 fun hlt=>?_) (by omega);obtain⟨c,hc,h1,h2⟩:=hv.full 0 (Int.le_refl _) (by unfold ea at *; omega);obtain⟨k,hk,rfl⟩:=ho.any hc;have:=ho.le (Nat.zero_le k) hk;omega
   . rename_i hn;refine Int.le_antisymm (Int.not_lt.1 fun hlt=>?_) (by omega);obtain⟨c,hc,_⟩:=hv.full 0 (Int.le_refl _) hlt;obtain⟨k,hk,_⟩:=ho.any hc;omega
 . intro k hk;have gk:=hv.tR _ (ho.mem hk);have:=gk.IX;have:=gk.qF;have:=gk.fits;have none:¬ Sa d.bO (ea (yg d.bO ord k))->d.b6<=ea (yg d.bO ord k):=fun h=>Int.not_lt.1 fun hlt=>h (hv.full _ (by unfold ea;omega) hlt)
   have cov:Sa d.bO (ea (yg d.bO ord k))->∃q,k<q/\q<d.bO.length/\(yg d.bO ord q).to<=ea (yg d.bO ord k):=fun⟨c,hc,h1,h2⟩=>by
    obtain⟨q,hq,rfl⟩:=ho.any hc;refine⟨q,Nat.lt_of_not_le fun hle=>?_,hq,h1⟩;by_cases e:q=k
    . subst e;omega
    . have:=KI hv ho (p:=q) (q:=k) (by omega) hk;unfold ea at *; omega
   unfold pos;split
   . rename_i hk1;refine Int.le_antisymm ?_ (KI hv ho (Nat.lt_succ_self k) hk1);have g1:=hv.tR _ (ho.mem hk1);have h3:=KI hv ho (Nat.lt_succ_self k) hk1;have h4:=g1.fits;have h5:=g1.qF;by_cases hc:Sa d.bO (ea (yg d.bO ord k))
     . obtain⟨q,h6,h7,h8⟩:=cov hc;exact Int.le_trans (ho.le h6 h7) h8
     . have:=none hc;unfold ea at h4;omega
   . rename_i hk1;refine Int.le_antisymm ?_ gk.fits;refine none fun hc=>?_
     obtain⟨q,h6,h7,_⟩:=cov hc;omega
theorem TK(ho:Ord d.bO ord)(hn:d.bO.length<=1000000000000):jA ord d.bO d []=some (d,Aj d.bO ord):=by
 have hl:=ho.len;unfold jA;refine cb (f:=gV ord d.bO) ord.length (fun k=>((k:Int),d,(Aj d.bO ord).take k)) _ (fun k hk=>?step) ?fin rfl
 case step=>
  unfold gV zQ
  have hix:=ho.ix (k:=k) (by omega)
  obtain⟨h1,h2⟩:=hix
  rw[if_pos (by simp;omega)]
  simp only[dD (0:Int) hk,aa]
  rw[uo (k:=(ord.getD k 0).toNat) default (by omega) (by omega)]
  simp only[aa,vL]
  rw[dj (by have:=yj ho;simp;omega)]
  simp only[aa,dk hk (by omega)]
  rw[aB (by rw[yj ho];omega),<- bX,Nz ho (by omega)]
  rfl
 case fin=>
  unfold gV
  rw[if_neg (by simp)]
  simp only
  rw[br (by rw[yj ho];omega)]
theorem tu(ho:Ord d.bO ord)(hs:pW d.bO=some (d.bO,ord))(hd:∀c∈d.bO,c.data.length<=140737488355328)(hn:d.bO.length<=1000000000000):
 yu d=some ⟨d.cg,d.b6,d.dv,d.du,Aj d.bO ord⟩:=by
 unfold yu
 rw[hs]
 simp only[aa,TK ho hn]
 rw[Oz d _ (fun c hc=>hd c ((yD ho).mem_iff.1 hc)) (by rw[yj ho];exact hn)]
 rfl
theorem Tw(l:List bN)(hn:l.length<=1000000000000):∃S,tF l=some S/\S.Perm l/\S.Pairwise fun a b=>a.to<=b.to:=by
 unfold tF;refine ck (f:=tV l) (fun m st=>∃(k:Nat) (S:List bN),st=(S,(k:Int))/\m=l.length-k/\k<=l.length/\S.Perm (l.take k)/\S.Pairwise fun a b=>a.to<=b.to)
  (fun S=>S.Perm l/\S.Pairwise fun a b=>a.to<=b.to) ?_ l.length _ ⟨0,[],rfl,rfl,Nat.zero_le _,by simp,.nil⟩
 rintro m st ⟨k,S,rfl,rfl,hk,hp,hs⟩;have hl:=hp.length_eq;rw[aN,Nat.min_eq_left hk]at hl;unfold tV;by_cases hlt:k<l.length
 . left;rw[if_pos (show(S,(k:Int)).2<(l.length:Int)by simp;omega)];obtain⟨r,hr,j,rfl,hj1,hj2,hj3⟩:=ck (f:=tW l (S,(k:Int)))
    (fun m st=>∃j:Nat,st=(j:Int)/\m=j/\j<=S.length/\∀i,j<=i->i<S.length->(cat l k).to<(cat S i).to)
    (fun r=>∃j:Nat,r=(j:Int)/\j<=S.length/\(∀i,j<=i->i<S.length->(cat l k).to<(cat S i).to)/\∀i,i<j->(cat S i).to<=(cat l k).to) (by
     rintro m st ⟨j,rfl,hmj,hj,hgt⟩;unfold tW;by_cases h0:j>0
     . have e1:i64.wrap ((j:Int)-1)=((j-1:Nat):Int):=by rw[fm (by omega) (by omega)];omega
       rw[if_pos (by omega),e1];simp only[dD default (show j-1<S.length by omega),dD default hlt,aa,au];by_cases hc:(cat S (j-1)).to>(cat l k).to
       . left;rw[if_pos hc];refine⟨j-1,_,rfl,by omega,j-1,rfl,rfl,by omega,fun i h1 h2=>?_⟩;by_cases e:i=j-1
         . subst e;exact hc
         . exact hgt i (by omega) h2
       . right;rw[if_neg hc];refine⟨_,rfl,j,rfl,hj,hgt,fun i hi=>?_⟩;by_cases e:i=j-1
         . subst e;omega
         . have:=aX.1 hs i (j-1) (by omega) (by omega) (by omega);rw[<- bX,<- bX]at this;omega
     . right;rw[if_neg (by omega)];simp only[aa,aI,if_false];exact⟨_,rfl,j,rfl,hj,hgt,fun i hi=>by omega⟩) S.length (S.length:Int) ⟨S.length,rfl,rfl,Nat.le_refl _,fun i h1 h2=>by omega⟩
   have e0:(S.length:Int)=((S,(k:Int)).1.length:Int):=rfl;rw[<- e0,hr];simp only[aa];rw[AG (by omega),Fv (by omega)];simp only[aa,dD default hlt,aM];rw[dj (by simp;omega)];simp only[aa];rw[dj (by simp;omega)];simp only[aa];rw[dj (by simp;omega)];simp only[aa,dk hlt (by omega),a7];refine⟨l.length-(k+1),_,rfl,by omega,k+1,S.take j++[cat l k]++S.drop j,rfl,rfl,by omega,?_,?_⟩
   . rw[aB hlt,<- bX];have h1:(S.take j++[cat l k]++S.drop j).Perm (S++[cat l k]):=by
      have e:S++[cat l k]=S.take j++(S.drop j++[cat l k]):=by rw[<- az,List.take_append_drop]
      rw[e,az];exact List.perm_append_comm.append_left _
     exact h1.trans (hp.append_right _)
   . rw[List.pairwise_append,List.pairwise_append];refine⟨⟨hs.sublist (List.take_sublist _ _),by simp,fun a ha b hb=>?_⟩,hs.sublist (List.drop_sublist _ _),fun a ha b hb=>?_⟩
     . simp at hb;subst hb;obtain⟨i,hi,rfl⟩:=List.mem_take_iff_getElem.1 ha;rw[<- bX];exact hj3 i (by omega)
     . obtain⟨i,hi,rfl⟩:=List.mem_drop_iff_getElem.1 hb;rw[<- bX];have h1:=hj2 (j+i) (by omega) (by omega);rcases aK.1 ha with ha|ha
       . obtain⟨q,hq,rfl⟩:=List.mem_take_iff_getElem.1 ha;have h2:=hj3 q (by omega);rw[<- bX];omega
       . rw[List.mem_singleton]at ha;subst ha;exact Int.le_of_lt h1
 . right;rw[if_neg (show ¬ (S,(k:Int)).2<(l.length:Int)by simp;omega)];have:k=l.length:=by omega
   subst this;rw[bn]at hp;exact⟨_,rfl,hp,hs⟩
theorem wH:∀(A B:List bN),A.Perm B->(A.Pairwise fun a b=>a.to<=b.to)->(B.Pairwise fun a b=>a.to<=b.to)->(∀a∈A,∀b∈A,a.to=b.to->a=b)->A=B
 |[],B,hp,_,_,_=>(List.nil_perm.1 hp).symm
 |a::A,[],hp,_,_,_=>absurd hp.length_eq (by simp)
 |a::A,b::B,hp,ha,hb,hu=>by
  have h1:a∈b::B:=hp.mem_iff.1 (by simp);have h2:b∈a::A:=hp.mem_iff.2 (by simp);have k1:a.to<=b.to:=by
   rcases aZ.1 h2 with e|e
   . rw[e];exact Int.le_refl _
   . exact(List.pairwise_cons.1 ha).1 b e
  have k2:b.to<=a.to:=by
   rcases aZ.1 h1 with e|e
   . rw[e];exact Int.le_refl _
   . exact(List.pairwise_cons.1 hb).1 a e
  have e:a=b:=hu a (by simp) b h2 (by omega);subst e;rw[wH A B (List.Perm.cons_inv hp) (List.pairwise_cons.1 ha).2 (List.pairwise_cons.1 hb).2 fun x hx y hy=>hu x (by simp[hx]) y (by simp[hy])]
theorem ZR(hv:VD d):∀a∈d.bO,∀b∈d.bO,a.to=b.to->a=b:=fun a ha b hb e=>by
 obtain⟨i,hi,rfl⟩:=Kg ha;obtain⟨j,hj,rfl⟩:=Kg hb;by_cases hij:i=j
 . rw[hij]
 . refine absurd ⟨i,j,hi,hj,hij,?_⟩ hv.apart;have:=(hv.tR _ ha).qF;have:=(hv.tR _ hb).qF;unfold ov ea;rw[au];omega
theorem X2{d:bZ}{c:bN}(h:Good d c)(L:List bN):Good ⟨d.cg,d.b6,d.dv,d.du,L⟩ c:=⟨h.IX,h.qF,h.fits,h.max,h.copy,h.lit⟩
end
end G
end Go.Proofs.YtekpafdhgkocaaaGreat
namespace Go.Proofs.YtekpafdhgkocaaaGreat
open IntKind(i64)
open G
namespace G
abbrev Xp:=Int⊕UInt8
def exp(c:bN):List Xp:=if c.kind=1 then(List.range c.len.toNat).map (fun k:Nat=>.inl (c.cq+(k:Int)))else c.data.map .inr
def V4(l:List bN):List Xp:=l.flatMap exp
structure Jt(c:bN):Prop where
 qF:1<=fc c
 copy:c.kind=1->c.data=[]
 lit:c.kind≠1->c.kind=2/\c.cq=0/\c.len=0
theorem Good.nice{d:bZ}{c:bN}(h:Good d c):Jt c:=⟨h.qF,fun hk=>(h.copy hk).2.2.2.2,h.lit⟩
theorem DR{c:bN}(h:c.kind=1):fc c=c.len:=by unfold fc;rw[if_pos h]
theorem Dg{c:bN}(h:c.kind≠1):fc c=(c.data.length:Int):=by unfold fc;rw[if_neg h]
theorem QB{c:bN}(h:c.kind=1):exp c=(List.range c.len.toNat).map (fun k:Nat=>.inl (c.cq+(k:Int))):=by unfold exp;rw[if_pos h]
theorem Ur{c:bN}(h:c.kind≠1):exp c=c.data.map .inr:=by unfold exp;rw[if_neg h]
theorem O9{c:bN}(h:Jt c):((exp c).length:Int)=fc c:=by
 by_cases hk:c.kind=1
 . have:=h.qF;rw[DR hk]at this ⊢; rw[QB hk];simp;omega
 . rw[Dg hk,Ur hk];simp
section
variable {x y:bN}{l L:List bN}
def Xz(a:Int):List bN->Int->Prop
 |[],b=>a=b
 |c::l,b=>c.to=a/\Xz (ea c) l b
def one(a:Int):Xp->bN
 |.inl k=>⟨1,a,k,1,[]⟩
 |.inr b=>⟨2,a,0,0,[b]⟩
end
end G
end Go.Proofs.YtekpafdhgkocaaaGreat
namespace Go.Proofs.YtekpafdhgkocaaaGreat
open IntKind(i64)
open G
namespace G
structure Fit(N M:Int)(c:bN):Prop where
 nice:Jt c
 IX:0<=c.to
 fits:ea c<=N
 src:c.kind=1->0<=c.cq/\c.cq+c.len<=M
theorem Good.fit{d:bZ}{c:bN}(h:Good d c):Fit d.b6 d.cg c:=⟨h.nice,h.IX,h.fits,fun hk=>⟨(h.copy hk).1,(h.copy hk).2.2.1⟩⟩
section
variable {N M:Int}{a b c:bN}
theorem Fit.data(ha:Fit N M a)(hN:N<=1000000):a.data.length<=1000000:=by
 by_cases hk:a.kind=1
 . rw[ha.nice.copy hk];simp
 . have:=ha.fits;have:=ha.IX;unfold ea at *; rw[Dg hk]at *; omega
theorem Vq(l:List (List UInt8))(h:l.flatten.length<=100000000)(hn:l.length<=1000):lI l=some l.flatten:=by
 have hpre:∀k,(l.take k).flatten.length<=l.flatten.length:=fun k=>by
  conv=>rhs;rw[<- List.take_append_drop k l]
  rw[bm,ak];omega
 have hsucc:∀k (hk:k<l.length),(l.take (k+1)).flatten=(l.take k).flatten++l[k]:=fun k hk=>by
  rw[aB hk,bm];simp
 unfold lI;rw[cb (f:=iV l) l.length (fun k=>(((l.take k).flatten.length:Int),(k:Int))) (l.flatten.length:Int) (fun k hk=>?s1) ?f1 (s:=(0,0)) rfl]
 . simp only[aa];have hg:iX (l.flatten.length:Int)=some []:=by
    unfold iX;rw[if_neg (by omega),fm (x:=(0:Int)-0) (by omega) (by omega),fm (by omega) (by omega)];by_cases h0:(l.flatten.length:Int)-(0-0)>0
    . rw[if_pos h0,dX (by omega)];rfl
    . rw[if_neg h0]
   rw[hg];simp only[aa];rw[cb (f:=iW l) l.length (fun k=>((l.take k).flatten,(k:Int))) l.flatten (fun k hk=>?s2) ?f2 (s:=([],0)) rfl]
   case s2=>
    unfold iW
    rw[if_pos (by simp;omega)]
    have:=hpre (k+1);rw[hsucc k hk,ak]at this
    simp only[cN hk,aa,dk hk (by omega)]
    rw[dj (by omega)]
    simp only[aa,hsucc k hk]
   case f2=>
    unfold iW
    rw[if_neg (by simp)];simp
 case s1=>
  unfold iV
  rw[if_pos (by simp;omega)]
  have:=hpre (k+1);rw[hsucc k hk,ak]at this
  simp only[cN hk,aa,dk hk (by omega)]
  rw[fm (by omega) (by omega),if_neg (by omega),hsucc k hk,ak]
  congr 4
 case f1=>
  unfold iV
  rw[if_neg (by simp)];simp
theorem Sp(t:Int)(l:List (List UInt8))(h:l.flatten.length<=100000000)(hn:l.length<=1000):tw t l=some ⟨2,t,0,0,l.flatten⟩:=by
 unfold tw;rw[Vq l h hn];rfl
theorem Nb(c:bN):ew c=some (if c.kind=1 then(⟨c.cq,c.len⟩,true)else(⟨0,0⟩,false)):=by
 unfold ew;by_cases h:c.kind=1<;>simp[h]
end
end G
end Go.Proofs.YtekpafdhgkocaaaGreat
namespace Go.Proofs.YtekpafdhgkocaaaGreat
open IntKind(i64)
open G
namespace G
section
variable {N M:Int}{l:List bN}
theorem drop_cons{α:Type}{l:List α}{i:Nat}(h:i<l.length):l.drop i=l[i]::l.drop (i+1):=by rw[bA h]
end
end G
end Go.Proofs.YtekpafdhgkocaaaGreat
namespace Go.Proofs.YtekpafdhgkocaaaGreat
open IntKind(i64)
open G
namespace G
section
variable {d:bZ}{ord:List Int}
theorem ZO(hv:VD d)(ho:Ord d.bO ord):Xz 0 (Aj d.bO ord) d.b6:=by
 obtain⟨h0,h1⟩:=tiled hv ho;have hl:=yj ho;have key:∀m k,k+m=d.bO.length->Xz (pos d ord k) ((Aj d.bO ord).drop k) d.b6:=by
  intro m
  induction m with
  |zero=>
   intro k hk
   rw[List.drop_of_length_le (by omega)]
   show pos d ord k=d.b6
   unfold pos;rw[if_neg (by omega)]
  |succ m ih=>
   intro k hk
   have hk':k<(Aj d.bO ord).length:=by omega
   rw[drop_cons hk',<- bX hk',Nz ho (by omega)]
   refine⟨?_,?_⟩
   . unfold pos;rw[if_pos (by omega)]
   . rw[<- h1 k (by omega)];exact ih (k+1) (by omega)
 have:=key d.bO.length 0 (by omega);rw[h0]at this;simpa using this
end
theorem TR:∀{l:List bN} {a b:Int},(∀c∈l,Jt c)->Xz a l b->a<=b/\∀c∈l,a<=c.to/\ea c<=b
 |[],a,b,_,h=>⟨Int.le_of_eq h,fun c hc=>by cases hc⟩
 |x::l,a,b,hn,⟨h1,h2⟩=>by
  obtain⟨h3,h4⟩:=TR (fun c hc=>hn c (by simp[hc])) h2;have hx:=(hn x (by simp)).qF;have ht:ea x=x.to+fc x:=rfl;refine⟨by omega,fun c hc=>?_⟩;rcases aZ.1 hc with rfl|hc
  . exact⟨by omega,h3⟩
  . have:=h4 c hc;exact⟨by omega,this.2⟩
theorem PV:∀{l:List bN} {a b:Int},(∀c∈l,Jt c)->Xz a l b->l.Pairwise fun x y=>ea x<=y.to
 |[],_,_,_,_=>.nil
 |x::l,a,b,hn,⟨h1,h2⟩=>by
  have hn':=fun c hc=>hn c (aE x hc)
  exact .cons (fun y hy=>((TR hn' h2).2 y hy).1) (PV hn' h2)
structure Sm(d:bZ)(S:List bN):Prop where
 vd:VD d
 len:d.bO.length<=1000
 new:d.b6<=3000
 perm:S.Perm d.bO
 til:Xz 0 S d.b6
section
variable {d:bZ}{S:List bN}
theorem Sm.fit(h:Sm d S):∀c∈S,Fit d.b6 d.cg c:=fun c hc=>(h.vd.tR c (h.perm.mem_iff.1 hc)).fit
theorem Sm.nice(h:Sm d S):∀c∈S,Jt c:=fun c hc=>(h.fit c hc).nice
theorem Sm.UZ(h:Sm d S):d.b6<=1000000/\d.cg<=4611686018427387903:=⟨by have:=h.new;omega,h.vd.UZ.2.1⟩
theorem Sm.afN(h:Sm d S):S.length<=1000:=by rw[h.perm.length_eq];exact h.len
theorem Sm.data(h:Sm d S):∀c∈d.bO,c.data.length<=140737488355328:=fun c hc=>by
 have:=(h.vd.tR c hc).fit.data h.UZ.1;omega
theorem Sm.pw(h:Sm d S):S.Pairwise fun a b=>a.to<=b.to:=by
 refine(aX).2 fun i j hi hj hij=>?_
 have h1:=aX.1 (PV h.nice h.til) i j hi hj hij;have h2:=(h.nice _ (aA hi)).qF;unfold ea at h1;omega
theorem Sm.inj(h:Sm d S):∀a∈S,∀b∈S,a.to=b.to->a=b:=fun a ha b hb e=>ZR h.vd a (h.perm.mem_iff.1 ha) b (h.perm.mem_iff.1 hb) e
theorem Sm.ord(h:Sm d S):∃ord,Ord d.bO ord/\pW d.bO=some (d.bO,ord)/\Aj d.bO ord=S:=by
 obtain⟨ord,hs,hp,hsr⟩:=Oh (l:=d.bO) (by have:=h.len;omega);have ho:Ord d.bO ord:=⟨hp,hsr⟩;refine⟨ord,ho,hs,?_⟩;refine(wH S _ (h.perm.trans (yD ho).symm) h.pw ?_ h.inj).symm;have ht:=ZO h.vd ho;have hn:∀c∈Aj d.bO ord,Jt c:=fun c hc=>(h.vd.tR c ((yD ho).mem_iff.1 hc)).nice
 refine(aX).2 fun i j hi hj hij=>?_
 have h1:=aX.1 (PV hn ht) i j hi hj hij;have h2:=(hn _ (aA hi)).qF;unfold ea at h1;omega
theorem Sm.sort(h:Sm d S):yu d=some ⟨d.cg,d.b6,d.dv,d.du,S⟩:=by
 obtain⟨ord,ho,hs,rfl⟩:=h.ord;exact tu ho hs h.data (by have:=h.len;omega)
theorem T7(hv:VD d)(h1:d.bO.length<=1000)(h2:d.b6<=3000):∃S,Sm d S:=by
 obtain⟨ord,ho⟩:=adG d.bO;exact⟨Aj d.bO ord,hv,h1,h2,yD ho,ZO hv ho⟩
theorem Xx(d:bZ)(hn:d.bO.length<=9223372036854775807):∃b,rY d=some b/\(b=true->∃S,Sm d S):=by
 unfold rY;rw[Oo d hn];simp only[aa];by_cases hf:SU d=true
 . rw[if_pos hf];obtain⟨h1,h2⟩:=QE.1 hf;by_cases hk:d.b6<=1000
   . rw[if_pos hk];obtain⟨b,h3,h4⟩:=KC (d:=d) (by omega);rw[h3];exact⟨b,rfl,fun hb=>T7 (h4.1 hb) (by omega) (by omega)⟩
   . rw[if_neg hk];exact⟨false,rfl,fun h=>by cases h⟩
 . rw[if_neg hf];exact⟨false,rfl,fun h=>by cases h⟩
end
end G
namespace G
theorem Ve:∀{l:List bN} {a b:Int},(∀c∈l,Jt c)->Xz a l b->((V4 l).length:Int)=b-a
 |[],a,b,_,h=>by have h:a=b:=h;subst h;show((0:Nat):Int)=_;omega
 |x::l,a,b,hn,⟨h1,h2⟩=>by
  have ih:=Ve (fun c hc=>hn c (aE x hc)) h2;have hx:=O9 (hn x (by simp));show((exp x++V4 l).length:Int)=_;rw[ak];have:ea x=x.to+fc x:=rfl;omega
theorem ZN:∀{l:List bN} {a b o:Int} {c:bN},(∀c∈l,Jt c)->Xz a l b->c∈l->c.to<=o->o<ea c->(V4 l)[(o-a).toNat]?=(exp c)[(o-c.to).toNat]?
 |x::l,a,b,o,c,hn,⟨h1,h2⟩,hc,h3,h4=>by
  have hx:=O9 (hn x (by simp));have te:ea x=x.to+fc x:=rfl;have hn':=fun c hc=>hn c (aE x hc)
  show(exp x++V4 l)[(o-a).toNat]?=_;rcases aZ.1 hc with rfl|hc
  . rw[List.getElem?_append_left (by omega),h1]
  . have h5:=((TR hn' h2).2 c hc).1;have h6:=(hn x (by simp)).qF;rw[List.getElem?_append_right (by omega),<- ZN hn' h2 hc h3 h4];congr 1;omega
end G
end Go.Proofs.YtekpafdhgkocaaaGreat
namespace Go.Proofs.YtekpafdhgkocaaaGreat
open IntKind(i64)
open G
namespace G
def rd(a0:List UInt8):Xp->UInt8
 |.inl k=>a0.getD k.toNat 0
 |.inr b=>b
def B0(a0:List UInt8)(c:bN):List UInt8:=(exp c).map (rd a0)
def file(a0:List UInt8)(S:List bN):List UInt8:=(V4 S).map (rd a0)
section
variable {d:bZ}{S:List bN}{a0:List UInt8}
theorem Ch{c:bN}(h:Jt c):((B0 a0 c).length:Int)=fc c:=by unfold B0;rw[aJ];exact O9 h
theorem Hw{c:bN}(hk:c.kind=1)(h0:0<=c.cq)(h1:0<=c.len)(h2:c.cq+c.len<=(a0.length:Int)):B0 a0 c=(a0.take (c.cq+c.len).toNat).drop c.cq.toNat:=by
 unfold B0;rw[QB hk,List.map_map];refine List.ext_getElem (by simp only[aJ,List.length_range,aV,aN];omega) fun i h3 h4=>?_
 simp only[aJ,List.length_range]at h3;simp only[List.getElem_map,List.getElem_range,List.getElem_drop,List.getElem_take,Function.comp_apply,rd];rw[show(c.cq+(i:Int)).toNat=c.cq.toNat+i by omega,List.getD_eq_getElem?_getD,List.getElem?_eq_getElem (by omega)];rfl
theorem KV{c:bN}(hk:c.kind≠1):B0 a0 c=c.data:=by
 unfold B0;rw[Ur hk,List.map_map];have:rd a0 ∘ Sum.inr=id:=by funext b;rfl
 rw[this,List.map_id]
theorem KU{c:bN}{N M:Int}(h:Fit N M c)(hM:M<=(a0.length:Int))(hl:a0.length<=1000000):sZ a0 c=some (B0 a0 c):=by
 unfold sZ;rw[Nb];by_cases hk:c.kind=1
 . have hs:=h.src hk;have hn:=h.nice.qF;rw[DR hk]at hn;simp only[if_pos hk,aa,if_true];rw[fm (by omega) (by omega),IG (by omega),Hw hk hs.1 (by omega) (by omega)];rfl
 . simp only[if_neg hk,aa,aI,if_false];rw[KV hk]
theorem J5{o:Int}{c:bN}(h:Sm d S)(hc:c∈S)(h1:c.to<=o)(h2:o<ea c):(file a0 S)[o.toNat]?=(B0 a0 c)[(o-c.to).toNat]?:=by
 unfold file B0;have:=ZN h.nice h.til hc h1 h2;rw[Int.sub_zero]at this;rw[List.getElem?_map,List.getElem?_map,this]
theorem wO(h:Sm d S):((file a0 S).length:Int)=d.b6:=by
 unfold file;rw[aJ,Ve h.nice h.til];omega
theorem aaC(hv:VD d)(hn:d.bO.length<=17592186044416)(hl:d.cg=(a0.length:Int)):Bw a0 d=some true:=by
 unfold Bw;obtain⟨b,h1,_,h2⟩:=Vw (d:=d) hn;rw[h1,h2.2 hv];simp only[aa,if_true];rw[beq_iff_eq.2 hl]
theorem acS{α:Type}{l x:List α}{o:Nat}(h:o+x.length<=l.length)(j:Nat):(VS l o x)[j]?=if o<=j/\j<o+x.length then x[j-o]? else l[j]?:=by
 have hl:(l.take o).length=o:=by simp;omega
 unfold VS;rw[br (l:=x) (by omega)];by_cases h1:j<o
 . rw[if_neg (by omega),List.getElem?_append_left (by omega),List.getElem?_take,if_pos h1]
 . rw[List.getElem?_append_right (by omega),hl];by_cases h2:j<o+x.length
   . rw[if_pos ⟨by omega,h2⟩,List.getElem?_append_left (by omega)]
   . rw[if_neg (by omega),List.getElem?_append_right (by omega),List.getElem?_drop,show o+x.length+(j-o-x.length)=j by omega]
theorem Xd(h:Sm d S)(hl:d.cg=(a0.length:Int))(ha:a0.length<=1000000):zx a0 d=some (file a0 S):=by
 have hN:=h.new;have hR:=h.vd.UZ;unfold M8 at hR;unfold zx;rw[aaC h.vd (by have:=h.len;omega) hl];simp only[aa,Bool.true_eq_false,if_false];rw[dX (by omega)];simp only[aa];obtain⟨r,hr,rfl⟩:=ck (f:=yK a0 d)
  (fun m st=>∃(k:Nat) (out:List UInt8),st=((k:Int),out)/\m=d.bO.length-k/\k<=d.bO.length/\(out.length:Int)=d.b6/\∀i (hi:i<d.bO.length),i<k->∀o:Int,d.bO[i].to<=o->o<ea d.bO[i]->out[o.toNat]?=(file a0 S)[o.toNat]?)
  (fun r=>r=file a0 S) (by
   rintro m st ⟨k,out,rfl,rfl,hk,hlen,hall⟩;unfold yK;by_cases hlt:k<d.bO.length
   . left;rw[if_pos (by simp;omega)];have hm:d.bO[k]∈S:=h.perm.mem_iff.2 (aA hlt);have hf:=h.fit _ hm;have f0:=hf.IX;have f1:=hf.fits;have f2:=hf.nice.qF;simp only[cN hlt,aa];rw[dX (by unfold ea at f1;omega),KU hf (by omega) ha];simp only[aa,dk hlt (by have:=h.len;omega)];have bl:=Ch (a0:=a0) hf.nice;have te:ea d.bO[k]=d.bO[k].to+fc d.bO[k]:=rfl;rw[br (by omega)];refine⟨d.bO.length-(k+1),_,rfl,by omega,k+1,_,rfl,rfl,by omega,by rw[Fl (by omega)];exact hlen,fun i hi hik o h1 h2=>?_⟩;rw[acS (by omega)];by_cases hin:d.bO[k].to<=o/\o<ea d.bO[k]
     . rw[if_pos (by omega),J5 h hm hin.1 hin.2];congr 1;omega
     . have hi0:=(h.fit _ (h.perm.mem_iff.2 (aA hi))).IX;rw[if_neg (by omega)];by_cases e:i=k
       . subst e;exact absurd ⟨h1,h2⟩ hin
       . exact hall i hi (by omega) o h1 h2
   . right;rw[if_neg (by simp;omega)];refine⟨_,rfl,List.ext_getElem? fun j=>?_⟩;have fl:=wO (a0:=a0) h;show out[j]?=_;by_cases hj:(j:Int)<d.b6
     . obtain⟨c,hc,h1,h2⟩:=h.vd.full (j:Int) (by omega) hj;obtain⟨i,hi,rfl⟩:=bF.1 hc;have:=hall i hi (by omega) (j:Int) h1 h2;rwa[aM]at this
     . rw[List.getElem?_eq_none (by omega),List.getElem?_eq_none (by omega)]) _ _ ⟨0,List.replicate d.b6.toNat 0,rfl,rfl,Nat.zero_le _,by rw[bj];omega,fun i hi h=>by omega⟩
 exact hr
theorem Ji(h:Sm d S)(hl:d.cg=(a0.length:Int))(ha:a0.length<=1000000):mT a0 d=some (file a0 S):=by
 have hN:=h.new;have hR:=h.vd.UZ;unfold M8 at hR;have fl:=wO (a0:=a0) h;unfold mT;refine cb (f:=oC a0 d) (file a0 S).length (fun k=>((file a0 S).take k,(k:Int))) _ (fun k hk=>?_) ?_ rfl
 . unfold oC;rw[if_pos (by simp only;omega)];obtain⟨r,hr,hr1,hr2⟩:=Kw h.vd.tR (by have:=h.len;omega) (k:Int);have hr0:0<=r:=Int.not_lt.1 fun hlt=>hr1.1 hlt (h.vd.full _ (by omega) (by omega))
   obtain⟨i,hi,rfl,h2,h3⟩:=hr2 hr0;simp only[hr,aa,cN hi];have hm:d.bO[i]∈S:=h.perm.mem_iff.2 (aA hi);have hf:=h.fit _ hm;generalize d.bO[i]=c at*
   have hat:=J5 (a0:=a0) h hm h2 h3;have f1:=hf.fits;have f2:=hf.IX;have te:ea c=c.to+fc c:=rfl;have bl:=Ch (a0:=a0) hf.nice;rw[aM,List.getElem?_eq_getElem hk,List.getElem?_eq_getElem (by omega)]at hat;have hat:=ar hat;have happ:∀u,u=(file a0 S)[k]->(app 1 ((file a0 S).take k) [u]).bind (fun y=>some (Sum.inl (α:=List UInt8×Int) (β:=List UInt8) (y,i64.wrap ((k:Int)+1))))=some (.inl ((file a0 S).take (k+1),((k+1:Nat):Int))):=by
    rintro u rfl;rw[dj (by simp;omega),aB hk];simp only[aa];rw[dk (n:=100000) (by omega) (by omega)]
   by_cases hkd:c.kind=1
   . have hs:=hf.src hkd;have hn:=hf.nice.qF;rw[DR hkd]at te hn bl;rw[if_pos hkd,fm (x:=c.cq+(k:Int)) (by omega) (by omega),fm (by omega) (by omega),uo (k:=(c.cq+(k:Int)-c.to).toNat) (0:UInt8) (by omega) (by omega)];simp only[aa];refine happ _ ?_;rw[hat];simp only[Hw hkd hs.1 (by omega) (show c.cq+c.len<=(a0.length:Int)by omega),List.getElem_drop,List.getElem_take];rw[List.getD_eq_getElem?_getD,List.getElem?_eq_getElem (by omega)];simp only[Option.getD_some];congr 1;omega
   . rw[Dg hkd]at te bl;rw[if_neg hkd,fm (by omega) (by omega),uo (k:=((k:Int)-c.to).toNat) (0:UInt8) (by omega) (by omega)];simp only[aa];refine happ _ ?_;rw[hat];simp only[KV hkd];rw[List.getD_eq_getElem?_getD,List.getElem?_eq_getElem (by omega)];rfl
 . unfold oC;rw[if_neg (by simp only;omega)];simp
end
theorem Xk(a0:List UInt8)(d:bZ)(hn:d.bO.length<=9223372036854775807):∃b,tH a0 d=some b/\(b=true->d.cg=(a0.length:Int)/\∃S,Sm d S):=by
 unfold tH;rw[Oo d hn];simp only[aa];by_cases hf:SU d=true
 . rw[if_pos hf];obtain⟨h1,h2⟩:=QE.1 hf;obtain⟨b,h3,h4⟩:=KC (d:=d) (by omega);rw[h3];simp only[aa];by_cases hb:b=true
   . rw[if_pos hb];by_cases hl:d.cg=(a0.length:Int)
     . rw[if_pos hl];refine⟨_,rfl,fun h=>⟨hl,T7 (h4.1 hb) (by omega) (aF h)⟩⟩
     . rw[if_neg hl];exact⟨false,rfl,fun h=>by cases h⟩
   . rw[if_neg hb];exact⟨false,rfl,fun h=>by cases h⟩
 . rw[if_neg hf];exact⟨false,rfl,fun h=>by cases h⟩
end G
end Go.Proofs.YtekpafdhgkocaaaGreat
namespace Go.Proofs.YtekpafdhgkocaaaGreat
open IntKind(i64)
open G
namespace G
def Wg(a0:List UInt8)(c:bN):bN:=⟨2,c.to,0,0,B0 a0 c⟩
def pq(a0:List UInt8)(a2:List Int)(i:Nat)(c:bN):bN:=if c.kind=1/\(i:Int)∈a2 then Wg a0 c else c
def k9(a0:List UInt8)(a2:List Int)(l:List bN):List bN:=l.mapIdx (pq a0 a2)
section
variable {d:bZ}{S:List bN}{a0:List UInt8}{a2:List Int}
theorem zy(i:Nat)(c:bN):(pq a0 a2 i c).to=c.to:=by unfold pq;split<;>rfl
theorem Wh{c:bN}(h:Jt c):fc (Wg a0 c)=fc c:=by
 rw[Dg (by simp[Wg])];exact Ch h
theorem Iq(i:Nat){c:bN}(h:Jt c):fc (pq a0 a2 i c)=fc c:=by
 unfold pq;split
 . exact Wh h
 . rfl
theorem WB(i:Nat)(c:bN):B0 a0 (pq a0 a2 i c)=B0 a0 c:=by
 unfold pq;split
 . rw[KV (by simp[Wg])];rfl
 . rfl
theorem la(l:List bN):(k9 a0 a2 l).length=l.length:=by unfold k9;simp
theorem yF(l:List bN){i:Nat}(h:i<l.length)(h':i<(k9 a0 a2 l).length):(k9 a0 a2 l)[i]=pq a0 a2 i l[i]:=List.getElem_mapIdx
theorem UH(h:Sm d S):VD ⟨d.cg,d.b6,d.dv,d.du,k9 a0 a2 d.bO⟩:=by
 have hR:=h.vd.UZ;have gd:∀i (hi:i<d.bO.length),Fit d.b6 d.cg d.bO[i]:=fun i hi=>h.fit _ (h.perm.mem_iff.2 (aA hi))
 have te:∀i (hi:i<d.bO.length),ea (pq a0 a2 i d.bO[i])=ea d.bO[i]:=fun i hi=>by
  unfold ea;rw[zy,Iq i (gd i hi).nice]
 refine⟨hR,fun c hc=>?_,?_,fun o h1 h2=>?_⟩
 . obtain⟨i,hi,rfl⟩:=bF.1 hc;have hi':i<d.bO.length:=by rw[<- la (a0:=a0) (a2:=a2) d.bO];exact hi
   have e:=yF (a0:=a0) (a2:=a2) d.bO hi' hi;show Good _ (k9 a0 a2 d.bO)[i];rw[e];have g:=h.vd.tR _ (aA hi');refine⟨by rw[zy];exact g.IX,by rw[Iq i (gd i hi').nice];exact g.qF,by rw[te i hi'];exact g.fits,by rw[te i hi'];exact g.max,fun hk=>?_,fun hk=>?_⟩
   . unfold pq at hk ⊢;split at hk
     . simp[Wg]at hk
     . rename_i hn;rw[if_neg hn];exact g.copy hk
   . unfold pq at hk ⊢;split at hk
     . rename_i hp;rw[if_pos hp];exact⟨rfl,rfl,rfl⟩
     . rename_i hn;rw[if_neg hn];exact g.lit hk
 . rintro⟨i,j,hi,hj,hne,hov⟩;change i<(k9 a0 a2 d.bO).length at hi;change j<(k9 a0 a2 d.bO).length at hj;change ov (cat (k9 a0 a2 d.bO) i) (cat (k9 a0 a2 d.bO) j)=true at hov;have hi':i<d.bO.length:=by rw[la]at hi;exact hi
   have hj':j<d.bO.length:=by rw[la]at hj;exact hj
   rw[bX hi,bX hj,yF d.bO hi' hi,yF d.bO hj' hj]at hov;refine h.vd.apart ⟨i,j,hi',hj',hne,?_⟩;rw[bX hi',bX hj'];unfold ov at hov ⊢;rw[te i hi',te j hj',zy,zy]at hov;exact hov
 . obtain⟨c,hc,h3⟩:=h.vd.full o h1 h2;obtain⟨i,hi,rfl⟩:=bF.1 hc;have hi':i<(k9 a0 a2 d.bO).length:=by rw[la];exact hi
   refine⟨(k9 a0 a2 d.bO)[i],aA hi',?_⟩;rw[yF d.bO hi hi',te i hi,zy];exact h3
theorem aaT(h:Sm d S):∃S',Sm ⟨d.cg,d.b6,d.dv,d.du,k9 a0 a2 d.bO⟩ S'/\file a0 S'=file a0 S:=by
 obtain⟨S',hS'⟩:=T7 (UH (a0:=a0) (a2:=a2) h) (by show(k9 a0 a2 d.bO).length<=1000;rw[la];exact h.len) h.new;refine⟨S',hS',List.ext_getElem? fun j=>?_⟩;have l1:=wO (a0:=a0) h;have l2:((file a0 S').length:Int)=d.b6:=wO (a0:=a0) (d:=⟨d.cg,d.b6,d.dv,d.du,k9 a0 a2 d.bO⟩) hS';by_cases hj:(j:Int)<d.b6
 . obtain⟨c,hc,h1,h2⟩:=h.vd.full (j:Int) (by omega) hj;have e1:=J5 (a0:=a0) h (h.perm.mem_iff.2 hc) h1 h2;obtain⟨i,hi,rfl⟩:=bF.1 hc;have hi':i<(k9 a0 a2 d.bO).length:=by rw[la];exact hi
   have hn:=(h.fit _ (h.perm.mem_iff.2 (aA hi))).nice;have hm:(k9 a0 a2 d.bO)[i]∈S':=hS'.perm.mem_iff.2 (aA hi');have ep:=yF (a0:=a0) (a2:=a2) d.bO hi hi';have e2:=J5 (a0:=a0) (o:=(j:Int)) hS' hm (by rw[ep,zy];exact h1) (by rw[ep];unfold ea;rw[zy,Iq i hn];exact h2);rw[aM]at e1 e2;rw[e1,e2,ep,WB,zy]
 . rw[List.getElem?_eq_none (by omega),List.getElem?_eq_none (by omega)]
theorem rL(l:List Int)(x:Int)(hn:l.length<=9000000000000000000):dN l x=some (decide (x∈l)):=by
 unfold dN rq;have hK:=jd (f:=hU l x) l (fun c=>decide (x=c)) (fun k=>(k:Int)) (fun k=>(k:Int)) (-1)
  (fun k h hb=>by
   unfold hU;rw[if_pos (by omega),cN h];simp only[aa];rw[if_neg (of_decide_eq_false hb),dk h (by omega)])
  (fun k h hb=>by
   unfold hU;rw[if_pos (by omega),cN h];simp only[aa];rw[if_pos (aF hb)])
  (by unfold hU;rw[if_neg (by omega)]) (s:=0) rfl
 rcases hK with⟨ha,he⟩|⟨k,h,hb,_,he⟩
 . rw[he];simp only[aa];congr 1;rw[aW];exact⟨fun h=>by omega,fun h=>absurd rfl (of_decide_eq_false (ha x h))⟩
 . rw[he];simp only[aa];congr 1;rw[aW];exact⟨fun _=>by rw[aF hb];exact aA h,fun _=>by omega⟩
theorem Y8(l:List Int)(x:Int)(hn:l.length<=9000000000000000000):sW x l=some (decide (x∈l)):=by
 unfold sW;have hK:=jd (f:=o9 x l) l (fun c=>decide (c=x)) (fun k=>(k:Int)) (fun _=>true) false
  (fun k h hb=>by
   unfold o9;rw[if_pos (by omega),cN h];simp only[aa];rw[if_neg (of_decide_eq_false hb),dk h (by omega)])
  (fun k h hb=>by
   unfold o9;rw[if_pos (by omega),cN h];simp only[aa];rw[if_pos (aF hb)])
  (by unfold o9;rw[if_neg (by omega)]) (s:=0) rfl
 rcases hK with⟨ha,he⟩|⟨k,h,hb,_,he⟩
 . rw[he];congr 1;symm;rw[bh];exact fun h=>absurd rfl (of_decide_eq_false (ha x h))
 . rw[he];congr 1;symm;rw[au];rw[<- aF hb];exact aA h
theorem RP{c:bN}{N M:Int}(h:Fit N M c)(hk:c.kind=1)(hM:M<=(a0.length:Int))(hl:a0.length<=1000000):xr a0 c.cq (i64.wrap (c.cq+c.len))=some (B0 a0 c):=by
 have hs:=h.src hk;have hn:=h.nice.qF;rw[DR hk]at hn;rw[fm (by omega) (by omega),IG (by omega),Hw hk hs.1 (by omega) (by omega)]
theorem Dz(l:List bN){k:Nat}(hk:k<l.length):(k9 a0 a2 l).take (k+1)=(k9 a0 a2 l).take k++[pq a0 a2 k l[k]]:=by
 rw[aB (by rw[la];exact hk),yF l hk]
theorem Ym(l:List bN){k:Nat}(hk:k<l.length):((k9 a0 a2 l).take k++l.drop k).set k (pq a0 a2 k l[k])=(k9 a0 a2 l).take (k+1)++l.drop (k+1):=by
 have hl:((k9 a0 a2 l).take k).length=k:=by rw[aN,la];omega
 rw[List.set_append_right _ _ (by omega),hl,Nat.sub_self,bA hk,List.set_cons_zero,Dz l hk,az];rfl
end
end G
end Go.Proofs.YtekpafdhgkocaaaGreat
namespace Go.Proofs.YtekpafdhgkocaaaGreat
open IntKind(i64)
open G
namespace G
def dM:bZ:=⟨4611686018427387903,4611686018427387903,fun _=>0,fun _=>0,[]⟩
structure Rt(l:List bN):Prop where
 len:l.length<=30
 tR:∀c∈l,Good dM c
 data:∀c∈l,c.data.length<=3000
 apart:∀i,i<l.length->Ro l i=false
section
variable {l:List bN}
def Hq(c j:bN):Bool:=decide (c.kind=1/\c.cq<ea j/\j.to<c.cq+c.len)
def drt(l:List bN)(i:Nat):Bool:=(l.take i).any (Hq (cat l i))
def aei(l:List bN)(r:Int):Prop:=((∀i,i<l.length->drt l i=false)/\r=(l.length:Int))\/∃k,k<l.length/\drt l k=true/\(∀j,j<k->drt l j=false)/\r=(k:Int)
theorem Xq{a b:cd}(ha:0<=a.off/\1<=a.len/\a.off+a.len<=4611686018427387903)(hb:0<=b.off/\1<=b.len/\b.off+b.len<=4611686018427387903):∃e,gS a b=some (e,decide (a.off<b.off+b.len/\b.off<a.off+a.len)):=by
 unfold gS fV rf;simp only[aa];rw[fm (x:=a.off+a.len) (by omega) (by omega),fm (x:=b.off+b.len) (by omega) (by omega)];have hx:lN (a.off+a.len) (b.off+b.len)-imax a.off b.off<=4611686018427387903/\ -4611686018427387903<=lN (a.off+a.len) (b.off+b.len)-imax a.off b.off/\(lN (a.off+a.len) (b.off+b.len)-imax a.off b.off<1↔¬ (a.off<b.off+b.len/\b.off<a.off+a.len)):=by
  unfold lN imax;split<;>split<;>omega
 rw[fm (by omega) (by omega)];split
 . rename_i h;exact⟨_,by rw[decide_eq_false (hx.2.2.1 h)];rfl⟩
 . rename_i h;exact⟨_,by rw[aH (Classical.not_not.1 (fun k=>h (hx.2.2.2 k)))];rfl⟩
def MF(c:bN):cd:=⟨c.to,fc c⟩
theorem Ry{c:bN}{ps:List bN}(hc:Good dM c)(hp:∀p∈ps,Good dM p)(hn:ps.length<=1000):Ft c (ps.map MF)=some (ps.any (Hq c)):=by
 unfold Ft;have hS:ew c=some (if c.kind=1 then(⟨c.cq,c.len⟩,true)else(⟨0,0⟩,false)):=by
  unfold ew;by_cases h:c.kind=1<;>simp[h]
 rw[hS];by_cases hk:c.kind=1
 . obtain⟨k1,k2,k3,k4,_⟩:=hc.copy hk;have k5:=hc.qF;unfold fc at k5;rw[if_pos hk]at k5;simp only[if_pos hk,aa,if_true];unfold fw fR;have hr:∀k (h:k<ps.length),BD (MF ps[k]) ⟨c.cq,c.len⟩=some (Hq c ps[k]):=fun k h=>by
    have g:=hp _ (aA h);have g1:=g.IX;have g2:=g.qF;have g3:=g.max;obtain⟨e,he⟩:=Xq (a:=⟨c.cq,c.len⟩) (b:=MF ps[k]) ⟨k1,k5,k4⟩ ⟨g1,g2,g3⟩;unfold BD;rw[he];simp only[aa];congr 1;unfold Hq;rw[aW];show c.cq<ps[k].to+fc ps[k]/\ps[k].to<c.cq+c.len↔_;unfold ea;simp[hk]
   have hK:=jd (f:=cx (ps.map MF) ⟨c.cq,c.len⟩) ps (Hq c) (fun k=>(k:Int)) (fun k=>(k:Int)) (-1)
    (fun k h hb=>by
     unfold cx;rw[if_pos (by simp;omega),cN (show k<(ps.map MF).length by simp;omega)];simp only[aa,List.getElem_map,hr k h,hb,aI,if_false];rw[dk h (by omega)])
    (fun k h hb=>by
     unfold cx;rw[if_pos (by simp;omega),cN (show k<(ps.map MF).length by simp;omega)];simp only[aa,List.getElem_map,hr k h,hb,if_true])
    (by unfold cx;rw[if_neg (by simp)]) (s:=0) rfl
   rcases hK with⟨ha,he⟩|⟨k,h,hb,_,he⟩
   . rw[he];simp only[aa];congr 1;rw[show decide ((-1:Int)≥0)=false from rfl];symm;rw[List.any_eq_false];intro x hx;rw[ha x hx];simp
   . rw[he];simp only[aa];congr 1;rw[aH (show(k:Int)≥0 by omega)];symm;rw[bH];exact⟨_,aA h,hb⟩
 . simp only[if_neg hk,aa,aI,if_false];congr 1;symm;rw[List.any_eq_false];intro x hx;unfold Hq;simp[hk]
theorem ad9(hn:l.length<=30)(tR:∀c∈l,Good dM c):∃r,Jn l=some r/\aei l r:=by
 unfold Jn Ml tf;simp only[aa];have hK:=jd (f:=fK l) (List.range l.length) (fun i=>drt l i) (fun k=>((l.take k).map MF,(k:Int),l,0)) (fun k=>.inl (l,(k:Int))) (.inr (l,0))
  (fun k hk hb=>by
   simp only[List.length_range]at hk;simp only[List.getElem_range]at hb;have hr:=Ry (ps:=l.take k) (tR _ (aA hk)) (fun p hp=>tR p (List.mem_of_mem_take hp)) (by simp;omega);unfold drt at hb;rw[bX hk]at hb;rw[hb]at hr;unfold fK yM;rw[if_pos (by simp;omega)];simp only[cN hk,aa,hr,aI,if_false,vL];rw[dj (by simp;omega),dk hk (by omega),aB hk,aY];rfl)
  (fun k hk hb=>by
   simp only[List.length_range]at hk;simp only[List.getElem_range]at hb;have hr:=Ry (ps:=l.take k) (tR _ (aA hk)) (fun p hp=>tR p (List.mem_of_mem_take hp)) (by simp;omega);unfold drt at hb;rw[bX hk]at hb;rw[hb]at hr;unfold fK yM;rw[if_pos (by simp;omega)];simp only[cN hk,aa,hr,if_true])
  (by unfold fK;rw[if_neg (by simp)]) (s:=([],0,l,0)) rfl
 rcases hK with⟨ha,he⟩|⟨k,hk,hb,hj,he⟩
 . rw[he];exact⟨_,rfl,.inl ⟨fun i hi=>ha i (List.mem_range.2 hi),rfl⟩⟩
 . rw[he];simp only[List.length_range]at hk;simp only[List.getElem_range]at hb hj;exact⟨_,rfl,.inr ⟨k,hk,hb,hj,rfl⟩⟩
end
end G
end Go.Proofs.YtekpafdhgkocaaaGreat
namespace Go.Proofs.YtekpafdhgkocaaaGreat
open IntKind(i64)
open G
namespace G
def src(f:List UInt8)(c:bN):List UInt8:=if c.kind=1 then(f.take (c.cq+c.len).toNat).drop c.cq.toNat else c.data
section
variable {a0:List UInt8}{l:List bN}
theorem afO(c:bN):ew c=some (if c.kind=1 then(⟨c.cq,c.len⟩,true)else(⟨0,0⟩,false)):=by
 unfold ew;by_cases h:c.kind=1<;>simp[h]
end
end G
end Go.Proofs.YtekpafdhgkocaaaGreat
namespace Go.Proofs.YtekpafdhgkocaaaGreat
open IntKind(i64)
open G
namespace G
theorem Xu{a b:bN}(ha:Good dM a)(hb:Good dM b):∃n,pa a b=some n/\(n>0↔Hq a b=true):=by
 unfold pa Hq;by_cases hk:a.kind=1
 . obtain⟨k1,k2,k3,k4,_⟩:=ha.copy hk;have k5:=ha.qF;rw[show fc a=a.len by unfold fc;rw[if_pos hk]]at k5;have b1:=hb.IX;have b2:=hb.qF;have b3:=hb.max;rw[if_neg (by simp[hk])];unfold nP jS;unfold ea at b3 ⊢;simp only[aa,yp];rw[fm (x:=a.cq+a.len) (by omega) (by omega),fm (x:=b.to+fc b) (by omega) (by omega),au];by_cases h:imax a.cq b.to≥lN (a.cq+a.len) (b.to+fc b)
   . rw[if_pos h];refine⟨_,rfl,?_⟩;simp only;revert h;unfold imax lN;split<;>split<;>omega
   . rw[if_neg h];refine⟨_,rfl,?_⟩;simp only;revert h;unfold imax lN;split<;>split<;>(intro h;rw[fm (by omega) (by omega)];omega)
 . rw[if_pos (by simpa using hk)];exact⟨0,rfl,by simp[hk]⟩
section
variable {l:List bN}
def ids(n:Nat):List Int:=(List.range n).map fun(k:Nat)=>(k:Int)
end
end G
end Go.Proofs.YtekpafdhgkocaaaGreat
namespace Go.Proofs.YtekpafdhgkocaaaGreat
open IntKind(i64)
open G
namespace G
theorem afB{i j:Nat}(h:i+j<=9223372036854775807):i64.wrap (eR .u64 (IntKind.u64.wrap (i64.wrap ((i:Int)+(j:Int)))) 1)=(((i+j)/2:Nat):Int):=Tg (by omega) h
theorem ZS{α:Type}{p:α->Bool}{x:α}:∀{l:List α},x∈l.takeWhile p->p x=true
 |[],h=>by cases h
 |a::l,h=>by
  by_cases ha:p a=true
  . rw[List.takeWhile_cons_of_pos ha]at h;rcases aZ.1 h with rfl|h
    . exact ha
    . exact ZS h
  . rw[List.takeWhile_cons_of_neg ha]at h;cases h
def xx(e:cd):Int:=e.off+e.len
def Ex(e:cd):Prop:=0<=e.off/\1<=e.len/\e.off+e.len<=4611686018427387903
def I1(a b:cd):Bool:=decide (a.off<xx b/\b.off<xx a)
def afe(a b:cd):cd:=⟨imax a.off b.off,lN (xx a) (xx b)-imax a.off b.off⟩
theorem ZY(a b:cd):I1 a b=I1 b a:=by unfold I1;rw[aW];omega
theorem Xr{a b:cd}(ha:Ex a)(hb:Ex b):gS a b=some (if I1 a b=true then(afe a b,true)else(⟨0,0⟩,false)):=by
 obtain⟨a1,a2,a3⟩:=ha;obtain⟨b1,b2,b3⟩:=hb;unfold gS fV rf;simp only[aa];rw[fm (x:=a.off+a.len) (by omega) (by omega),fm (x:=b.off+b.len) (by omega) (by omega)];have hx:lN (a.off+a.len) (b.off+b.len)-imax a.off b.off<=4611686018427387903/\ -4611686018427387903<=lN (a.off+a.len) (b.off+b.len)-imax a.off b.off/\(lN (a.off+a.len) (b.off+b.len)-imax a.off b.off<1↔¬ (a.off<b.off+b.len/\b.off<a.off+a.len)):=by
  unfold lN imax;split<;>split<;>omega
 rw[fm (by omega) (by omega)];unfold I1 xx;by_cases h:a.off<b.off+b.len/\b.off<a.off+a.len
 . rw[if_neg (fun k=>hx.2.2.1 k h),if_pos (aH h)];rfl
 . rw[if_pos (hx.2.2.2 h),if_neg (by simpa using h)];rfl
def H3(B:List cd):List bQ:=B.mapIdx fun k e=>⟨e,(k:Int)⟩
theorem uO(B:List cd):(H3 B).length=B.length:=by unfold H3;simp
theorem Cv{B:List cd}{k:Nat}(hk:k<B.length)(h':k<(H3 B).length):(H3 B)[k]=⟨B[k],(k:Int)⟩:=List.getElem_mapIdx
theorem VX(B:List cd){k:Nat}(hk:k<B.length):(H3 B).take (k+1)=(H3 B).take k++[⟨B[k],(k:Int)⟩]:=by
 rw[aB (by rw[uO];exact hk),Cv hk]
theorem Gv{B:List cd}{e:bQ}(h:e∈H3 B):∃k,∃hk:k<B.length,e=⟨B[k],(k:Int)⟩:=by
 obtain⟨k,hk,rfl⟩:=bF.1 h;have hk':k<B.length:=by rwa[uO]at hk
 exact⟨k,hk',Cv hk' hk⟩
theorem Yq{B:List cd}{k:Nat}(hk:k<B.length):(⟨B[k],(k:Int)⟩:bQ)∈H3 B:=by
 exact bF.2 ⟨k,by rw[uO];exact hk,Cv hk _⟩
theorem XA{e:cd}(h:Ex e):mn e=some true:=by
 obtain⟨h1,h2,h3⟩:=h;unfold mn;rw[if_pos (by unfold lN;split<;>omega),if_pos (by omega),fm (by omega) (by omega)];congr 1;exact aH (by omega)
theorem adu{B:List cd}(hB:∀e∈B,Ex e)(hn:B.length<=1000):Iter (uY B) (0,[])=some (.inl (H3 B)):=by
 refine cb (f:=uY B) B.length (fun k=>((k:Int),(H3 B).take k)) _ (fun k hk=>?_) ?_ rfl
 . have he:=hB _ (aA hk);unfold uY;rw[if_pos (by simp only;omega)];simp only[cN hk,aa,XA he];rw[if_neg (by decide)];simp only[aa];rw[if_neg (by have:=he.2.1;simp only[beq_iff_eq];omega),dj (by simp[uO];omega),dk hk (by omega),VX B hk];rfl
 . unfold uY;rw[if_neg (by simp)];rw[br (by rw[uO];exact Nat.le_refl _)]
structure Z5(B:List cd)(y:List bQ):Prop where
 perm:y.Perm (H3 B)
 len:y.length=B.length
 ex:∀e∈y,Ex e.dH
 srt:y.Pairwise fun a b=>xx a.dH<=b.dH.off
theorem Z8{B:List cd}(hB:∀e∈B,Ex e)(hn:B.length<50)(hd:∀i j (hi:i<B.length) (hj:j<B.length),i≠j->I1 B[i] B[j]=false):∃y,Dx B=some (.inr y)/\Z5 B y:=by
 unfold Dx;rw[adu hB (by omega)];simp only[aa,uq];obtain⟨y,e,hp,hs⟩:=QI.tu (H3 B) (by rw[uO];exact hn);rw[e];simp only[aa];have hl:y.length=B.length:=by rw[hp.length_eq,uO]
 have hex:∀e∈y,Ex e.dH:=fun e he=>by
  obtain⟨k,hk,rfl⟩:=Gv (hp.mem_iff.1 he);exact hB _ (aA hk)
 have hnd:y.Pairwise fun a b=>a.position≠b.position:=by
  have h0:(H3 B).Pairwise fun a b=>a.position≠b.position:=by
   refine aX.2 fun i j hi hj hij=>?_
   rw[Cv (by rwa[uO]at hi),Cv (by rwa[uO]at hj)];simp only;omega
  exact(hp.pairwise_iff (fun h=>h.symm)).2 h0
 have hsr:y.Pairwise fun a b=>xx a.dH<=b.dH.off:=by
  refine aX.2 fun i j hi hj hij=>?_
  have h1:=aX.1 hs i j hi hj hij;have h2:=aX.1 hnd i j hi hj hij;have x2:=hex _ (aA hj);obtain⟨p,hp1,e1⟩:=Gv (hp.mem_iff.1 (aA hi));obtain⟨q,hq1,e2⟩:=Gv (hp.mem_iff.1 (aA hj));have h3:=hd p q hp1 hq1 (fun h=>h2 (by rw[e1,e2];simp only;omega));rw[e1]at h1 ⊢;rw[e2]at h1 x2 ⊢;unfold I1 at h3;have h3:=of_decide_eq_false h3;unfold QI.key at h1;unfold Ex at x2;simp only at h1 x2 ⊢;unfold xx at h3 ⊢;omega
 refine⟨y,?_,hp,hl,hex,hsr⟩;refine cb (f:=xW y) y.length (fun k=>(k:Int)) _ (fun k hk=>?_) ?_ rfl
 . unfold xW;rw[if_pos (by omega)];have hv:(if(k:Int)>0 then(idx y (k:Int)).bind fun x11=>(idx y (i64.wrap ((k:Int)-1))).bind fun x12=>(fV x12.dH).bind fun y13=>some (decide (x11.dH.off<y13))else some false)=some false:=by
    by_cases h0:(k:Int)>0
    . rw[if_pos h0,cN hk,fm (by omega) (by omega),Uw (k:=k-1) (by omega) (by omega)];unfold fV;simp only[aa];have x1:=hex _ (aA (show k-1<y.length by omega));have:=aX.1 hsr (k-1) k (by omega) hk (by omega);unfold Ex at x1;unfold xx at this;rw[fm (by omega) (by omega),decide_eq_false (by omega)]
    . rw[if_neg h0]
   rw[hv];simp only[aa];rw[if_neg (by decide),dk hk (by omega)]
 . unfold xW;rw[if_neg (by omega)]
section
variable {B:List cd}{y:List bQ}
theorem Z5.get(h:Z5 B y){i j:Nat}(hij:i<j)(hj:j<y.length):xx y[i].dH<=y[j].dH.off:=aX.1 h.srt i j (by omega) hj hij
theorem Z5.mono(h:Z5 B y){i j:Nat}(hij:i<=j)(hj:j<y.length):xx y[i].dH<=xx y[j].dH:=by
 by_cases e:i=j
 . subst e;exact Int.le_refl _
 . have:=h.get (i:=i) (j:=j) (by omega) hj;have x:=h.ex _ (aA hj);unfold Ex at x;have:xx y[j].dH=y[j].dH.off+y[j].dH.len:=rfl;omega
theorem XD(h:Z5 B y)(hn:y.length<50)(o:Int):∃k:Nat,qN o y=some (k:Int)/\k<=y.length/\(∀j (hj:j<y.length),j<k->xx y[j].dH<=o)/\∀j (hj:j<y.length),k<=j->o<xx y[j].dH:=by
 unfold qN qt jc;simp only[aa];have hq:∀m (hm:m<y.length),nV (m:Int) y o=some (decide (o<xx y[m].dH)):=fun m hm=>by
  unfold nV fV;have x:=h.ex _ (aA hm);unfold Ex at x;rw[cN hm];simp only[aa];rw[fm (by omega) (by omega)];rfl
 obtain⟨r,e,k,rfl,h1,h2,h3⟩:=ck (f:=gU y o)
  (fun m s=>∃i j:Nat,s=((i:Int),(j:Int))/\m=j-i/\i<=j/\j<=y.length/\(∀p (hp:p<y.length),p<i->xx y[p].dH<=o)/\∀p (hp:p<y.length),j<=p->o<xx y[p].dH)
  (fun r=>∃k:Nat,r=(k:Int)/\k<=y.length/\(∀j (hj:j<y.length),j<k->xx y[j].dH<=o)/\∀j (hj:j<y.length),k<=j->o<xx y[j].dH) (by
   rintro m s ⟨i,j,rfl,rfl,h1,h2,h3,h4⟩;unfold gU;simp only;by_cases hij:i<j
   . have hm:(i+j)/2<y.length:=by omega
     rw[if_pos (by omega),afB (by omega),hq _ hm];simp only[aa];by_cases hc:o<xx y[(i+j)/2].dH
     . rw[aH hc,if_neg (by decide)];exact .inl ⟨_,_,rfl,by omega,i,(i+j)/2,rfl,rfl,by omega,by omega,h3,fun p hp hjp=>by have:=h.mono hjp hp;omega⟩
     . rw[decide_eq_false hc,if_pos rfl];refine .inl ⟨j-((i+j)/2+1),_,rfl,by omega,(i+j)/2+1,j,?_,rfl,by omega,by omega,fun p hp hpi=>by have:=h.mono (i:=p) (j:=(i+j)/2) (by omega) hm;omega,h4⟩;rw[fm (by omega) (by omega)];rfl
   . rw[if_neg (by omega)];have:i=j:=by omega
     subst this;exact .inr ⟨_,rfl,i,rfl,h2,h3,h4⟩) _ ((0:Int),(y.length:Int)) ⟨0,y.length,rfl,rfl,Nat.zero_le _,Nat.le_refl _,fun p _ hp=>by omega,fun p hp hp2=>by omega⟩
 rw[e];exact⟨k,rfl,h1,h2,h3⟩
theorem Z7(h:Z5 B y)(hn:y.length<50){s:cd}(hs:Ex s):∃M:List bQ,pb s y=some (M.map (·.position))/\M.length<50/\(M.Pairwise fun a b=>xx a.dH<=b.dH.off)/\∀e,e∈M↔e∈y/\I1 e.dH s=true:=by
 obtain⟨k,hk,k1,k2,k3⟩:=XD h hn s.off;refine⟨(y.drop k).takeWhile fun e=>I1 e.dH s,?_,?_,?_,?_⟩
 . unfold pb rk fD;simp only[aa];rw[hk];simp only[aa];rw[OG];obtain⟨r,e,he⟩:=ck (f:=eV y s)
    (fun m st=>∃(i:Nat) (out:List Int),st=((i:Int),out)/\m=y.length-i/\k<=i/\i<=y.length/\out.length<=i/\out++((y.drop i).takeWhile fun e=>I1 e.dH s).map (·.position)=((y.drop k).takeWhile fun e=>I1 e.dH s).map (·.position))
    (fun r=>r=((y.drop k).takeWhile fun e=>I1 e.dH s).map (·.position)) (by
     rintro m st ⟨i,out,rfl,rfl,i1,i2,i3,i4⟩;unfold eV qt;simp only[aa];by_cases hi:i<y.length
     . have x:=h.ex _ (aA hi);rw[if_pos (by omega),cN hi];simp only[aa];rw[Xr x hs];simp only[aa];rw[bA hi]at i4;by_cases hov:I1 y[i].dH s=true
       . rw[if_pos hov];rw[List.takeWhile_cons_of_pos (p:=fun e:bQ=>I1 e.dH s) hov,aO]at i4;simp only[Bool.true_eq_false,if_false];unfold sJ;rw[dj (by simp;omega)];simp only[aa,aI,if_false];rw[dk hi (by omega)];exact .inl ⟨y.length-(i+1),_,rfl,by omega,i+1,_,rfl,rfl,by omega,hi,by simp;omega,by rw[az];exact i4⟩
       . rw[if_neg hov];rw[List.takeWhile_cons_of_neg (p:=fun e:bQ=>I1 e.dH s) hov,bG,aL]at i4;simp only[if_true,aa];exact .inr ⟨_,rfl,i4⟩
     . rw[if_neg (by omega)];rw[List.drop_eq_nil_of_le (by omega),List.takeWhile_nil,bG,aL]at i4;exact .inr ⟨_,rfl,i4⟩) _ ((k:Int),[]) ⟨k,[],rfl,rfl,Nat.le_refl _,k1,by simp,rfl⟩
   rw[e,he]
 . have h1:=(List.takeWhile_sublist (fun e:bQ=>I1 e.dH s) (l:=y.drop k)).length_le;rw[aV]at h1;omega
 . exact h.srt.sublist ((List.takeWhile_sublist _).trans (List.drop_sublist _ _))
 . intro e;constructor
   . intro he;exact⟨List.mem_of_mem_drop ((List.takeWhile_sublist _).mem he),ZS (p:=fun e:bQ=>I1 e.dH s) he⟩
   . rintro⟨he,hov⟩;obtain⟨j,hj,rfl⟩:=bF.1 he;unfold I1 at hov;have hov:=aF hov;have hkj:k<=j:=Nat.le_of_not_lt fun hlt=>by
      have:=k2 j hj hlt;omega
     have hall:∀(n i:Nat),i+n=j->k<=i->y[j]∈(y.drop i).takeWhile fun e=>I1 e.dH s:=by
      intro n
      induction n with
      |zero=>
       intro i hi hki
       have:i=j:=by omega
       subst this
       rw[bA hj,List.takeWhile_cons_of_pos (p:=fun e:bQ=>I1 e.dH s) (by unfold I1;exact aH hov)]
       exact ax ..
      |succ n ih=>
       intro i hi hki
       have hi2:i<y.length:=by omega
       have x:=h.ex _ (aA hi2)
       have q1:=h.get (i:=i) (j:=j) (by omega) hj
       have q2:=k3 i hi2 hki
       rw[bA hi2,List.takeWhile_cons_of_pos (p:=fun e:bQ=>I1 e.dH s) (by
        unfold I1;refine aH ⟨?_,q2⟩;unfold Ex at x;unfold xx at q1;omega)]
       exact aE _ (ih (i+1) (by omega) (by omega))
     exact hall (j-k) k (by omega) (Nat.le_refl _)
end
end G
end Go.Proofs.YtekpafdhgkocaaaGreat
namespace Go.Proofs.YtekpafdhgkocaaaGreat
open IntKind(i64)
open G
namespace G
def UZ(o:Int)(m:Nat):List Int:=(List.range m).map fun(j:Nat)=>o+(j:Int)
section
variable {l:List bN}
theorem adV{c:bN}(h:Good dM c):Ex (MF c):=⟨h.IX,h.qF,h.max⟩
theorem WX(h:Rt l)(i:Nat):∀p q (hp:p<((l.take i).map MF).length) (hq:q<((l.take i).map MF).length),p≠q->I1 ((l.take i).map MF)[p] ((l.take i).map MF)[q]=false:=by
 have key:∀p q (hp:p<l.length) (hq:q<l.length),p<q->I1 (MF l[q]) (MF l[p])=false:=fun p q hp hq hpq=>by
  have h1:=h.apart q hq;unfold Ro at h1;rw[List.any_eq_false]at h1;have h2:=h1 l[p] (bF.2 ⟨p,by simp;omega,by simp⟩);rw[bX hq]at h2;show ov l[q] l[p]=false;simpa using h2
 intro p q hp hq hne;simp only[aJ,aN]at hp hq;simp only[List.getElem_map,List.getElem_take];rcases Nat.lt_or_ge p q with hpq|hpq
 . rw[ZY];exact key p q (by omega) (by omega) hpq
 . exact key q p (by omega) (by omega) (by omega)
end
end G
end Go.Proofs.YtekpafdhgkocaaaGreat
namespace Go.Proofs.YtekpafdhgkocaaaGreat
open IntKind(i64)
open G
namespace G
theorem aaG{d:bZ}{c:bN}(h:Good d c)(h1:d.cg<=4611686018427387903):Good dM c:=
 ⟨h.IX,h.qF,h.max,h.max,fun hk=>by obtain⟨k1,k2,k3,k4,k5⟩:=h.copy hk;exact⟨k1,k2,k4,k4,k5⟩,h.lit⟩
theorem Sr(d:bZ)(hn:d.bO.length<=9223372036854775807):∃b,sb d=some b/\(b=true->d.bO.length<=20/\∃S,Sm d S):=by
 unfold sb;by_cases h:(d.bO.length:Int)<=20
 . rw[if_pos h];obtain⟨b,e,hb⟩:=Xx d hn;rw[e];exact⟨b,rfl,fun h1=>⟨by omega,hb h1⟩⟩
 . rw[if_neg h];exact⟨false,rfl,fun h=>by cases h⟩
end G
end Go.Proofs.YtekpafdhgkocaaaGreat
namespace Go.Proofs.YtekpafdhgkocaaaGreat
open IntKind(i64)
open G
namespace G
theorem Nh{l:List bN}:¬ Ca l↔l.Pairwise (fun a b=>ov a b=false):=by
 rw[aX];constructor
 . intro h i j hi hj hij;cases e:ov l[i] l[j]with
   |false=>rfl
   |true=>exact absurd ⟨i,j,hi,hj,by omega,by rw[bX hi,bX hj,e]⟩ h
 . rintro h ⟨i,j,hi,hj,hne,e⟩;rw[bX hi,bX hj]at e;rcases Nat.lt_or_gt_of_ne hne with k|k
   . rw[h i j hi hj k]at e;cases e
   . rw[PE,h j i hj hi k]at e;cases e
section
variable {d:bZ}{S L:List bN}{a0:List UInt8}
theorem VD.perm(h:VD d)(hp:L.Perm d.bO):VD ⟨d.cg,d.b6,d.dv,d.du,L⟩:=by
 refine⟨h.UZ,fun c hc=>X2 (h.tR c (hp.mem_iff.1 hc)) _,?_,fun o h1 h2=>?_⟩
 . exact Nh.2 ((hp.pairwise_iff (fun h=>by rw[PE];exact h)).2 (Nh.1 h.apart))
 . obtain⟨c,hc,h3⟩:=h.full o h1 h2;exact⟨c,hp.mem_iff.2 hc,h3⟩
theorem Sm.other(h:Sm d S)(hp:L.Perm d.bO):Sm ⟨d.cg,d.b6,d.dv,d.du,L⟩ S:=
 ⟨h.vd.perm hp,by show L.length<=1000;rw[hp.length_eq];exact h.len,h.new,h.perm.trans hp.symm,h.til⟩
end
end G
end Go.Proofs.YtekpafdhgkocaaaGreat
namespace Go.Proofs.YtekpafdhgkocaaaGreat
open IntKind(i64)
open G
theorem Li:EqB fe:=fun x y=>by
 unfold fe;cases x;cases y;simp[dn]
structure GR(L:List bP)(es:List (bP×Bool))(out oi:List (Int×List Int)):Prop where
 es:es=L.map fun e=>(e,true)
 out:∀v,(dT dn out v).getD []=(L.filter fun e=>dn e.cq v).map (·.to)
 oi:∀v,(dT dn oi v).getD []=(L.filter fun e=>dn e.to v).map (·.cq)
 nd:L.Nodup
theorem GR.nil:GR [] [] [] []:=⟨rfl,fun _=>rfl,fun _=>rfl,List.nodup_nil⟩
section
variable {L:List bP}{es:List (bP×Bool)}{out oi:List (Int×List Int)}{n:Int}{e:bP}
theorem GR.no(h:GR L es out oi)(hn:e ∉ L):dT fe es e=none:=by
 rw[Au,h.es,List.any_map,List.any_eq_false];intro x hx hq;exact hn (by rw[(Li _ _).1 hq];exact hx)
theorem GR.yes(h:GR L es out oi)(hn:e∈L):dT fe es e=some true:=by
 cases hm:dT fe es e with
 |none=>
  rw[Au,h.es,List.any_map,List.any_eq_false]at hm
  exact absurd (Li.refl e) (hm e hn)
 |some v=>
  have:=NU Li hm
  rw[h.es]at this
  obtain⟨x,_,hx⟩:=List.mem_map.1 this
  cases hx;rfl
theorem GR.add(h:GR L es out oi)(hn:e ∉ L):GR (L++[e]) (lP fe es e true) (lP dn out e.cq ((dT dn out e.cq).getD []++[e.to])) (lP dn oi e.to ((dT dn oi e.to).getD []++[e.cq])):=by
 refine⟨?_,fun v=>?_,fun v=>?_,?_⟩
 . rw[YA (h.no hn),h.es,aY];rfl
 . rw[Q6 gK,List.filter_append,aY];by_cases hv:dn v e.cq=true
   . obtain rfl:=(gK _ _).1 hv;rw[if_pos hv,h.out];simp[List.filter_cons,gK.refl]
   . have hv':dn e.cq v=false:=gK.ne fun e1=>hv (by rw[e1];exact gK.refl _)
     rw[if_neg hv,h.out];simp[List.filter_cons,hv']
 . rw[Q6 gK,List.filter_append,aY];by_cases hv:dn v e.to=true
   . obtain rfl:=(gK _ _).1 hv;rw[if_pos hv,h.oi];simp[List.filter_cons,gK.refl]
   . have hv':dn e.to v=false:=gK.ne fun e1=>hv (by rw[e1];exact gK.refl _)
     rw[if_neg hv,h.oi];simp[List.filter_cons,hv']
 . rw[List.nodup_append];exact⟨h.nd,by simp,fun a ha b hb=>by simp at hb;subst hb;exact fun e1=>hn (by rw[<- e1];exact ha)⟩
theorem Xb(h:GR L es out oi){i j:Int}(hi:0<=i)(hi':i<n)(hj:0<=j)(hj':j<n)(hl:L.length<=10000):
 ∃k es' out' inn' L',lG [⟨i,j⟩] n es out oi=some (k,es',out',inn')/\GR L' es' out' inn'/\((i=j\/(⟨i,j⟩:bP)∈L)/\L'=L\/¬ (i=j\/(⟨i,j⟩:bP)∈L)/\L'=L++[⟨i,j⟩]):=by
 have hlo:∀v,((dT dn out v).getD []).length<=10000:=fun v=>by rw[h.out,aJ];exact Nat.le_trans (bC _ _) hl
 have hli:∀v,((dT dn oi v).getD []).length<=10000:=fun v=>by rw[h.oi,aJ];exact Nat.le_trans (bC _ _) hl
 have hv:∀x:Int,0<=x->x<n->kU x n es out oi=some true:=fun x h1 h2=>by
  unfold kU gJ;rw[if_pos h1];simp[h2]
 have hx:idx [(⟨i,j⟩:bP)] 0=some ⟨i,j⟩:=rfl
 have hend:∀c es' out' inn',fU [⟨i,j⟩] n (c,1,es',out',inn')=some (.inr (c,es',out',inn')):=fun c es' out' inn'=>by
  unfold fU;rw[if_neg (by simp)]
 have w1:i64.wrap ((0:Int)+1)=1:=by decide
 unfold lG
 by_cases hc:i=j\/(⟨i,j⟩:bP)∈L
 . refine⟨0,es,out,oi,L,?_,h,.inl ⟨hc,rfl⟩⟩
   have h1:fU [⟨i,j⟩] n (0,0,es,out,oi)=some (.inl (0,1,es,out,oi)):=by
    unfold fU;rw[if_pos (by simp)];simp only[hx,aa,hv i hi hi',hv j hj hj',w1];rcases hc with rfl|hc
    . simp
    . have:=h.yes hc;by_cases hij:i=j
      . simp[hij]
      . simp[hij,this]
   rw[jB h1,fS (hend _ _ _ _)]
 . refine⟨1,_,_,_,_,?_,h.add (e:=⟨i,j⟩) (fun hm=>hc (.inr hm)),.inr ⟨hc,rfl⟩⟩
   have hij:i≠j:=fun e=>hc (.inl e)
   have hno:=h.no (e:=⟨i,j⟩) fun hm=>hc (.inr hm)
   have a1:app 8 ((dT dn out i).getD []) [j]=some ((dT dn out i).getD []++[j]):=dj (by have:=hlo i;simp;omega)
   have a2:app 8 ((dT dn oi j).getD []) [i]=some ((dT dn oi j).getD []++[i]):=dj (by have:=hli j;simp;omega)
   have c1:∀x:Int,m8 (dn x x=true)=some ():=fun x=>by unfold m8;rw[if_pos (gK.refl x)]
   have h1:fU [⟨i,j⟩] n (0,0,es,out,oi)=some (.inl (1,1,lP fe es ⟨i,j⟩ true,lP dn out i ((dT dn out i).getD []++[j]),lP dn oi j ((dT dn oi j).getD []++[i]))):=by
    unfold fU;rw[if_pos (by simp)];simp only[hx,aa,hv i hi hi',hv j hj hj',w1];simp[hij,hno,a1,a2,c1]
   rw[jB h1,fS (hend _ _ _ _)]
end
end Go.Proofs.YtekpafdhgkocaaaGreat
namespace Go.Proofs.YtekpafdhgkocaaaGreat
open IntKind(i64)
open G
namespace G
section
variable {l:List bN}
def nb(l:List bN)(i:Nat):List Nat:=(List.range l.length).filter fun j=>decide (i≠j)&&Hq (cat l i) (cat l j)
def UT(l:List bN)(k:Nat):List (Nat×Nat):=(List.range k).flatMap fun i=>(nb l i).map fun j=>(i,j)
theorem AB(l:List bN)(k:Nat):UT l (k+1)=UT l k++(nb l k).map fun j=>(k,j):=by
 unfold UT;rw[List.range_succ,List.flatMap_append];simp
theorem ads(l:List bN)(i:Nat):(nb l i).length<=l.length:=by
 unfold nb;exact Nat.le_trans (bC _ _) (by simp)
theorem PH(l:List bN):∀k,(UT l k).length<=k*l.length
 |0=>by simp[UT]
 |k+1=>by
  rw[AB,ak,aJ];have h1:=PH l k;have h2:=ads l k;rw[Nat.succ_mul];omega
theorem LM{i j:Nat}:j∈nb l i↔j<l.length/\i≠j/\Hq (cat l i) (cat l j)=true:=by
 unfold nb;rw[ba,List.mem_range];simp
theorem Kh{k:Nat}{p:Nat×Nat}:p∈UT l k↔p.1<k/\p.2∈nb l p.1:=by
 unfold UT;rw[List.mem_flatMap];constructor
 . rintro⟨i,hi,hp⟩;obtain⟨j,hj,rfl⟩:=List.mem_map.1 hp;exact⟨List.mem_range.1 hi,hj⟩
 . rintro⟨h1,h2⟩;exact⟨p.1,List.mem_range.2 h1,List.mem_map.2 ⟨p.2,h2,rfl⟩⟩
def aaA(p:Nat×Nat):bT:=⟨(p.1:Int),(p.2:Int)⟩
def acV(p:Nat×Nat):bP:=⟨(p.1:Int),(p.2:Int)⟩
theorem aa6(l:List bN)(i j:Nat):((List.range (j+1)).filter fun j=>decide (i≠j)&&Hq (cat l i) (cat l j))=((List.range j).filter fun j=>decide (i≠j)&&Hq (cat l i) (cat l j))++(if(decide (i≠j)&&Hq (cat l i) (cat l j))=true then[j]else[]):=by
 rw[List.range_succ,List.filter_append];congr 1;rw[List.filter_cons];split<;>rfl
theorem Rz(h:Rt l){i:Nat}(hi:i<l.length)(N:Int){E0:List bT}(h0:E0.length<=900):
 Iter (l8 l ((i:Int),N,E0)) (0,N,E0)=some (.inl (((i+1:Nat):Int),N,E0++(nb l i).map fun j=>aaA (i,j))):=by
 have hn:=h.len
 refine cb (f:=l8 l ((i:Int),N,E0)) l.length (fun j=>((j:Int),N,E0++((List.range j).filter fun j=>decide (i≠j)&&Hq (cat l i) (cat l j)).map fun j=>aaA (i,j))) _ (fun j hj=>?_) ?_ (by simp)
 . unfold l8
   simp only
   rw[if_pos (by omega)]
   have hlen:((List.range j).filter fun j=>decide (i≠j)&&Hq (cat l i) (cat l j)).length<=30:=Nat.le_trans (bC _ _) (by simp;omega)
   have hv:(if(i:Int)≠(j:Int)then(idx l (i:Int)).bind fun x4=>(idx l (j:Int)).bind fun x5=>(pa x4 x5).bind fun y6=>some (decide (y6>(0:Int)))else some false)=some (decide (i≠j)&&Hq (cat l i) (cat l j)):=by
    by_cases e:i=j
    . rw[if_neg (by omega)];simp[e]
    . obtain⟨n,e1,e2⟩:=Xu (h.tR _ (aA hi)) (h.tR _ (aA hj));rw[if_pos (by omega),cN hi,cN hj];simp only[aa,e1];rw[bX hi,bX hj];by_cases hh:Hq l[i] l[j]=true
      . simp[e,hh,e2.2 hh]
      . have:¬ n>0:=fun hn=>hh (e2.1 hn)
        simp[e,hh,this]
   rw[hv]
   simp only[aa]
   rw[aa6,aY]
   by_cases hb:(decide (i≠j)&&Hq (cat l i) (cat l j))=true
   . rw[if_pos hb,if_pos hb,dj (by simp only[ak,aJ,bK,List.length_nil];omega)]
     simp only[aa]
     rw[dk hj (by omega),az]
     rfl
   . rw[if_neg hb,if_neg hb,dk hj (by omega)]
     simp
 . unfold l8
   simp only
   rw[if_neg (by omega),dk hi (by omega)]
   rfl
theorem RA(h:Rt l):mU l=some ((l.length:Int),(UT l l.length).map aaA):=by
 have hn:=h.len;unfold mU;refine cb (f:=oJ l) l.length (fun i=>((i:Int),(l.length:Int),(UT l i).map aaA)) _ (fun i hi=>?_) ?_ (by simp[UT])
 . unfold oJ;rw[if_pos (by simp only;omega)];simp only;have hl:=PH l i;have:i*l.length<=30*30:=Nat.mul_le_mul (by omega) (by omega);rw[Rz h hi _ (by rw[aJ];omega),AB,aY,List.map_map];rfl
 . unfold oJ;rw[if_neg (by simp)]
end
end G
end Go.Proofs.YtekpafdhgkocaaaGreat
namespace Go.Proofs.YtekpafdhgkocaaaGreat
open IntKind(i64)
open G
namespace G
section
variable {l:List bN}
theorem V9{L:List bP}{es:List (bP×Bool)}{out oi:List (Int×List Int)}{n i:Int}{e1:List (bP×Bool)}{o1 n1:List (Int×List Int)}{e2:List (bP×Bool)}{o2 n2:List (Int×List Int)}(hG:GR L es out oi){J:List Int}(hJ:∀j∈J,0<=j/\j<n)(hJl:J.length<=50)(hL:L.length<=2000)(hi:0<=i)(hi':i<n)(hn:n<=1000):
 ∃es' out' inn' L',Iter (qH (n,e1,o1,n1) (i,e2,o2,n2) J) (0,es,out,oi)=some (.inl (i+1,es',out',inn'))/\GR L' es' out' inn'/\L'.length<=L.length+J.length/\∀e,e∈L'↔e∈L\/∃j∈J,i≠j/\e=⟨i,j⟩:=by
 obtain⟨r,e,es',out',inn',L',rfl,h1,h2,h3⟩:=ck (f:=qH (n,e1,o1,n1) (i,e2,o2,n2) J)
  (fun m s=>∃(k:Nat) (es':List (bP×Bool)) (out' inn':List (Int×List Int)) (L':List bP),s=((k:Int),es',out',inn')/\m=J.length-k/\k<=J.length/\GR L' es' out' inn'/\L'.length<=L.length+k/\∀e,e∈L'↔e∈L\/∃j∈J.take k,i≠j/\e=⟨i,j⟩)
  (fun r=>∃(es':List (bP×Bool)) (out' inn':List (Int×List Int)) (L':List bP),r=.inl (i+1,es',out',inn')/\GR L' es' out' inn'/\L'.length<=L.length+J.length/\∀e,e∈L'↔e∈L\/∃j∈J,i≠j/\e=⟨i,j⟩) (by
   rintro m s ⟨k,es',out',inn',L',rfl,rfl,hk,h1,h2,h3⟩;unfold qH;simp only;by_cases hlt:k<J.length
   . rw[if_pos (by omega),cN hlt];simp only[aa];obtain⟨j0,j1⟩:=hJ J[k] (aA hlt);obtain⟨c,es2,out2,inn2,L2,q1,q2,q3⟩:=Xb h1 hi hi' j0 j1 (by omega);rw[q1];simp only[aa];rw[dk hlt (by omega)];refine .inl ⟨J.length-(k+1),_,rfl,by omega,k+1,es2,out2,inn2,L2,rfl,rfl,by omega,q2,?_,fun e=>?_⟩
     . rcases q3 with⟨_,rfl⟩|⟨_,rfl⟩
       . omega
       . simp;omega
     . rw[aB hlt];rcases q3 with⟨q3,rfl⟩|⟨q3,rfl⟩
       . rw[h3];constructor
         . rintro(h|⟨j,hj,hne,he⟩)
           . exact .inl h
           . exact .inr ⟨j,bu _ hj,hne,he⟩
         . rintro(h|⟨j,hj,hne,he⟩)
           . exact .inl h
           . rcases aK.1 hj with hj|hj
             . exact .inr ⟨j,hj,hne,he⟩
             . rw[List.mem_singleton]at hj;subst hj;rcases q3 with q3|q3
               . exact absurd q3 hne
               . rw[he];exact(h3 _).1 q3
       . rw[aK,h3,List.mem_singleton];constructor
         . rintro((h|⟨j,hj,hne,he⟩)|h)
           . exact .inl h
           . exact .inr ⟨j,bu _ hj,hne,he⟩
           . exact .inr ⟨J[k],bL _ (by simp),fun e=>q3 (.inl e),h⟩
         . rintro(h|⟨j,hj,hne,he⟩)
           . exact .inl (.inl h)
           . rcases aK.1 hj with hj|hj
             . exact .inl (.inr ⟨j,hj,hne,he⟩)
             . rw[List.mem_singleton]at hj;subst hj;exact .inr he
   . have:k=J.length:=by omega
     subst this;rw[if_neg (by omega),fm (x:=i+1) (by omega) (by omega)];rw[bn]at h3;exact .inr ⟨_,rfl,es',out',inn',L',rfl,h1,h2,h3⟩) _ ((0:Int),es,out,oi) ⟨0,es,out,oi,L,rfl,rfl,Nat.zero_le _,hG,by omega,fun e=>by simp⟩
 exact⟨es',out',inn',L',e,h1,h2,h3⟩
theorem TQ(h:Rt l):∃y,rP l=some (.inr y)/\Z5 (l.map MF) y:=by
 have hn:=h.len;have h1:Iter (lY l) ([],0)=some (l.map MF):=by
  refine cb (f:=lY l) l.length (fun k=>((l.take k).map MF,(k:Int))) _ (fun k hk=>?_) ?_ (by simp)
  . unfold lY;rw[if_pos (by simp only;omega)];simp only[cN hk,aa,vL];rw[dj (by simp;omega),dk hk (by omega),aB hk,aY];rfl
  . unfold lY;rw[if_neg (by simp)];simp
 have ha:=WX h l.length;rw[bn]at ha;obtain⟨y,hy,hI⟩:=Z8 (B:=l.map MF) (fun e he=>by obtain⟨c,hc,rfl⟩:=List.mem_map.1 he;exact adV (h.tR c hc)) (by simp;omega) ha;refine⟨y,?_,hI⟩;unfold rP;rw[h1];simp only[aa,hy]
theorem Yp(h:Rt l){y:List bQ}(hI:Z5 (l.map MF) y){i:Nat}(hi:i<l.length)(hk:l[i].kind=1):
 ∃J:List Int,pb ⟨l[i].cq,l[i].len⟩ y=some J/\J.length<=50/\∀j:Int,j∈J↔∃k:Nat,j=(k:Int)/\k<l.length/\Hq (cat l i) (cat l k)=true:=by
 have hn:=h.len
 have hg:=h.tR _ (aA hi)
 obtain⟨k1,k2,k3,k4,_⟩:=hg.copy hk
 have k5:=hg.qF
 rw[show fc l[i]=l[i].len by unfold fc;rw[if_pos hk]]at k5
 obtain⟨M,m1,m2,_,m4⟩:=Z7 hI (by rw[hI.len];simp;omega) (s:=⟨l[i].cq,l[i].len⟩) ⟨k1,k5,by have e:dM.cg=4611686018427387903:=rfl;rw[e]at k3;exact k3⟩
 refine⟨_,m1,by simp;omega,fun j=>?_⟩
 rw[List.mem_map]
 constructor
 . rintro⟨e,he,rfl⟩
   obtain⟨e1,e2⟩:=(m4 e).1 he
   obtain⟨k,hk',rfl⟩:=Gv (hI.perm.mem_iff.1 e1)
   simp only[aJ]at hk'
   refine⟨k,rfl,hk',?_⟩
   rw[bX hi,bX hk']
   simp only[List.getElem_map]at e2
   unfold I1 xx MF at e2
   unfold Hq ea
   simp only[au]at e2 ⊢
   exact⟨hk,e2.2,e2.1⟩
 . rintro⟨k,rfl,hk',hh⟩
   rw[bX hi,bX hk']at hh
   refine⟨⟨(l.map MF)[k]'(by simpa using hk'),(k:Int)⟩,(m4 _).2 ⟨hI.perm.mem_iff.2 (Yq (by simpa using hk')),?_⟩,rfl⟩
   simp only[List.getElem_map]
   unfold I1 xx MF
   unfold Hq ea at hh
   simp only[au]at hh ⊢
   exact⟨hh.2.2,hh.2.1⟩
end
end G
end Go.Proofs.YtekpafdhgkocaaaGreat
namespace Go.Proofs.YtekpafdhgkocaaaGreat
open IntKind(i64)
open G
namespace G
section
variable {l:List bN}
theorem adt{i:Nat}(hi:i<l.length)(hk:l[i].kind≠1):nb l i=[]:=by
 unfold nb;rw[List.filter_eq_nil_iff];intro j _;rw[bX hi];unfold Hq;simp[hk]
theorem So(h:Rt l):∃es out oi L,q8 l=some ((l.length:Int),es,out,oi)/\GR L es out oi/\L.length<=50*l.length/\∀e,e∈L↔∃p∈UT l l.length,e=acV p:=by
 have hn:=h.len;obtain⟨y,hy,hI⟩:=TQ h;have hnew:uk (l.length:Int)=some ((l.length:Int),[],[],[]):=by
  unfold uk;rw[if_neg (by omega)];simp only[aa];rw[if_neg (by simp;omega)]
 unfold q8;rw[hnew];simp only[aa,hy];obtain⟨r,e,es,out,oi,L,rfl,h1,h2,h3⟩:=ck (f:=uN l ((l.length:Int),[],[],[]) y)
  (fun m s=>∃(i:Nat) (es:List (bP×Bool)) (out oi:List (Int×List Int)) (L:List bP),s=((i:Int),es,out,oi)/\m=l.length-i/\i<=l.length/\GR L es out oi/\L.length<=50*i/\∀e,e∈L↔∃p∈UT l i,e=acV p)
  (fun r=>∃(es:List (bP×Bool)) (out oi:List (Int×List Int)) (L:List bP),r=((l.length:Int),es,out,oi)/\GR L es out oi/\L.length<=50*l.length/\∀e,e∈L↔∃p∈UT l l.length,e=acV p) (by
   rintro m s ⟨i,es,out,oi,L,rfl,rfl,hi,h1,h2,h3⟩;unfold uN;simp only;by_cases hlt:i<l.length
   . rw[if_pos (by omega),cN hlt];simp only[aa,afO];by_cases hk:l[i].kind=1
     . rw[if_pos hk];simp only[if_true];obtain⟨J,j1,j2,j3⟩:=Yp h hI hlt hk;rw[j1];simp only[aa];obtain⟨es',out',inn',L',q1,q2,q3,q4⟩:=V9 (n:=(l.length:Int)) (i:=(i:Int)) (e1:=[]) (o1:=[]) (n1:=[]) (e2:=es) (o2:=out) (n2:=oi) h1 (J:=J) (fun j hj=>by obtain⟨k,rfl,hk',_⟩:=(j3 j).1 hj;omega) j2 (by omega) (by omega) (by omega) (by omega);rw[q1];refine .inl ⟨l.length-(i+1),_,rfl,by omega,i+1,es',out',inn',L',by simp,rfl,by omega,q2,by omega,fun e=>?_⟩;rw[q4,h3];constructor
       . rintro(⟨p,hp,he⟩|⟨j,hj,hne,he⟩)
         . exact⟨p,by rw[AB];exact bu _ hp,he⟩
         . obtain⟨k,rfl,hk',hh⟩:=(j3 j).1 hj;refine⟨(i,k),?_,he⟩;rw[AB];exact bL _ (List.mem_map.2 ⟨k,LM.2 ⟨hk',fun e=>hne (by rw[e]),hh⟩,rfl⟩)
       . rintro⟨p,hp,he⟩;rw[AB]at hp;rcases aK.1 hp with hp|hp
         . exact .inl ⟨p,hp,he⟩
         . obtain⟨k,hk2,rfl⟩:=List.mem_map.1 hp;obtain⟨k1,k2,k3⟩:=LM.1 hk2;exact .inr ⟨(k:Int),(j3 _).2 ⟨k,rfl,k1,k3⟩,by omega,he⟩
     . rw[if_neg hk];simp only[aI,if_false];rw[dk hlt (by omega)];refine .inl ⟨l.length-(i+1),_,rfl,by omega,i+1,es,out,oi,L,rfl,rfl,by omega,h1,by omega,fun e=>?_⟩;rw[h3,AB,adt hlt hk];simp
   . have:i=l.length:=by omega
     subst this;rw[if_neg (by omega)];exact .inr ⟨_,rfl,es,out,oi,L,rfl,h1,h2,h3⟩) _ ((0:Int),[],[],[]) ⟨0,[],[],[],[],rfl,rfl,Nat.zero_le _,GR.nil,by simp,fun e=>by simp[UT]⟩
 exact⟨es,out,oi,L,e,h1,h2,h3⟩
theorem Ws{α β:Type}{f:α->β}(hf:∀a b,f a=f b->a=b){l:List α}(h:l.Nodup):(l.map f).Nodup:=
 List.pairwise_map.2 (List.Pairwise.imp (fun hne e=>hne (hf _ _ e)) h)
end
end G
end Go.Proofs.YtekpafdhgkocaaaGreat
namespace Go.Proofs.YtekpafdhgkocaaaGreat
open IntKind(i64)
open G
namespace G
theorem Sj(v:List Int)(hn:v.length<=10000):dS v=some v:=by
 unfold dS dP eo;have h1:Iter (cJ v) (0,[])=some v:=by
  refine cb (f:=cJ v) v.length (fun k=>((k:Int),v.take k)) _ (fun k hk=>?_) ?_ (by simp)
  . unfold cJ fL;rw[if_pos (by simp only;omega),cN hk];simp only[aa];rw[dj (by simp;omega),dk hk (by omega),aB hk];rfl
  . unfold cJ;rw[if_neg (by simp),bn]
 rw[h1];rfl
theorem Og{a b:List Int}(h:a.Perm b)(ha:a.Pairwise (· <= ·))(hb:b.Pairwise (· <= ·)):a=b:=
 List.Perm.eq_of_pairwise (le:=(· <= ·)) (fun x y _ _ h1 h2=>Int.le_antisymm h1 h2) ha hb h
end G
end Go.Proofs.YtekpafdhgkocaaaGreat
