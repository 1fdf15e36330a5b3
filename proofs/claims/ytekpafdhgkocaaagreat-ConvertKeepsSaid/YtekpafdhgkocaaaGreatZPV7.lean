/- Part of the proof. -/
import Derived.Test.YtekpafdhgkocaaaGreatZPV1
namespace Go.Proofs.YtekpafdhgkocaaaGreat
section
open IntKind(i64)
open G
namespace G
section
variable {a0:List UInt8}{a2:List Int}{l:List bN}{N M:Int}
theorem Ot(hf:∀c∈l,Fit N M c)(hN:N<=1000000)(hM:M<=(a0.length:Int))(ha:a0.length<=1000000)(hln:l.length<=1000)(hn:a2.length<=1000000)(h1 h2:Nat->UInt8):
 tM a0 ⟨(a0.length:Int),0,h1,h2,l⟩ a2=some ((a0.length:Int),0,h1,h2,true,k9 a0 a2 l):=by
 have hd:∀c∈l,c.data.length<=140737488355328:=fun c hc=>by have:=(hf c hc).data hN;omega
 unfold tM
 rw[if_neg (by simp),XB _ l hd (by omega)]
 simp only[aa]
 refine cb (f:=qg a0 ⟨(a0.length:Int),0,h1,h2,l⟩ a2 ((a0.length:Int),0,h1,h2,l)) l.length (fun k=>((k:Int),0,0,(fun _=>0),(fun _=>0),(k9 a0 a2 l).take k++l.drop k,[])) _ (fun k hk=>?_) ?_ (by simp)
 . unfold qg
   have hfk:=hf _ (aA hk)
   have hb:=Ch (a0:=a0) hfk.nice
   have f0:=hfk.IX;have f1:=hfk.fits
   rw[if_pos (by simp only;omega)]
   simp only[cN hk,aa,Nb]
   have hlen:k<((k9 a0 a2 l).take k++l.drop k).length:=by rw[ak,aN,aV,la];omega
   by_cases hkd:l[k].kind=1
   . simp only[if_pos hkd,if_true,rL a2 _ (Nat.le_trans hn (by omega)),aa]
     by_cases hm:(k:Int)∈a2
     . rw[aH hm,if_pos rfl,RP hfk hkd hM ha]
       simp only[aa]
       rw[Sp _ _ (by simp;unfold ea at f1;omega) (by simp)]
       simp only[aa,dk hk (by omega)]
       rw[cN hlen]
       simp only[aa,aM]
       rw[<- Ym l hk]
       have:pq a0 a2 k l[k]=⟨2,l[k].to,0,0,[B0 a0 l[k]].flatten⟩:=by unfold pq;rw[if_pos ⟨hkd,hm⟩];simp[Wg]
       rw[this]
     . rw[decide_eq_false hm,if_neg (by simp),dk hk (by omega)]
       have:pq a0 a2 k l[k]=l[k]:=by unfold pq;rw[if_neg (fun h=>hm h.2)]
       rw[Dz l hk,this,bA hk]
       simp
   . simp only[if_neg hkd,aI,if_false,aa,dk hk (by omega)]
     have:pq a0 a2 k l[k]=l[k]:=by unfold pq;rw[if_neg (fun h=>hkd h.1)]
     rw[Dz l hk,this,bA hk]
     simp
 . unfold qg
   rw[if_neg (by simp)]
   simp only[List.drop_length,aL]
   rw[br (by rw[la];omega)]
theorem JN(hf:∀c∈l,Fit N M c)(hN:N<=1000000)(hM:M<=(a0.length:Int))(ha:a0.length<=1000000)(hln:l.length<=1000)(hn:a2.length<=1000000)(o n:Int)(h1 h2:Nat->UInt8):
 oG a0 ⟨o,n,h1,h2,l⟩ a2=some ⟨o,n,h1,h2,k9 a0 a2 l⟩:=by
 unfold oG
 rw[cb (f:=mq a0 ⟨o,n,h1,h2,l⟩ a2) l.length (fun k=>((k9 a0 a2 l).take k,(k:Int),0,0,(fun _=>0),(fun _=>0),[])) (k9 a0 a2 l,0,0,(fun _=>0),(fun _=>0),[]) (fun k hk=>?s) ?f (s:=([],0,0,0,(fun _=>0),(fun _=>0),[])) rfl]
 . rfl
 case s=>
  unfold mq
  have hfk:=hf _ (aA hk)
  have hb:=Ch (a0:=a0) hfk.nice
  have f0:=hfk.IX;have f1:=hfk.fits
  rw[if_pos (by simp only;omega)]
  simp only[cN hk,aa]
  have hv:(if l[k].kind=1 then(sW (k:Int) a2).bind fun y5=>some y5 else some false)=some (decide (l[k].kind=1/\(k:Int)∈a2)):=by
   by_cases hkd:l[k].kind=1
   . rw[if_pos hkd,Y8 a2 _ (Nat.le_trans hn (by omega))];simp only[aa];congr 1;rw[aW];simp[hkd]
   . rw[if_neg hkd];congr 1;symm;rw[bh];exact fun h=>hkd h.1
  rw[hv]
  simp only[aa]
  have hw:(if decide (l[k].kind=1/\(k:Int)∈a2)=true then(xr a0 l[k].cq (i64.wrap (l[k].cq+l[k].len))).bind fun y7=>(app 1 ([]:List UInt8) y7).bind fun y8=>some (⟨2,l[k].to,0,0,y8⟩:bN)else some l[k])=some (pq a0 a2 k l[k]):=by
   unfold pq;by_cases hp:l[k].kind=1/\(k:Int)∈a2
   . rw[if_pos (aH hp),if_pos hp,RP hfk hp.1 hM ha];simp only[aa];rw[dj (by simp;unfold ea at f1;omega)];rfl
   . rw[if_neg (by simpa using hp),if_neg hp]
  rw[hw]
  simp only[aa,dk hk (by omega)]
  rw[dj (by simp;omega),Dz l hk]
  rfl
 case f=>
  unfold mq
  rw[if_neg (by simp)]
  simp only
  rw[br (by rw[la];omega)]
end
def pg(l:List bN):List bN:=l.filter fun c=>decide (c.kind=2)
theorem Sn(l:List bN)(hn:l.length<=1000):∃y,cy l=some y/\(match y with| .inl _=>l| .inr y=>y)=pg l:=by
 have hp:∀c:bN,nM c=some (!decide (c.kind=2)):=fun c=>by
  unfold nM;congr 1
 have hI:∃r,cG l=some r/\((r= -1/\∀c∈l,c.kind=2)\/∃k:Nat,r=(k:Int)/\k<l.length/\cat l k ∉ pg l/\∀c∈l.take k,c.kind=2):=by
  have hK:=jd (f:=b8 l) l (fun c=>!decide (c.kind=2)) (fun k=>(k:Int)) (fun k=>(k:Int)) (-1)
   (fun k h hb=>by unfold b8;rw[if_pos (by omega),cN h];simp only[aa,hp];rw[hb,if_neg (by simp),dk h (by omega)])
   (fun k h hb=>by unfold b8;rw[if_pos (by omega),cN h];simp only[aa,hp];rw[hb,if_pos rfl])
   (by unfold b8;rw[if_neg (by omega)]) (s:=0) rfl
  unfold cG;rcases hK with⟨ha,he⟩|⟨k,h,hb,hj,he⟩
  . exact⟨_,he,.inl ⟨rfl,fun c hc=>by simpa using ha c hc⟩⟩
  . refine⟨_,he,.inr ⟨k,rfl,h,fun hm=>?_,fun c hc=>?_⟩⟩
    . have:=aF (ba.1 hm).2;rw[bX h]at this;simp[this]at hb
    . obtain⟨i,hi,rfl⟩:=bF.1 hc;rw[aN]at hi;rw[List.getElem_take];simpa using hj i (by omega)
 obtain⟨r,hr,hor⟩:=hI;unfold cy;rw[hr];simp only[aa];rcases hor with⟨rfl,ha⟩|⟨k,rfl,hk,hnk,ha⟩
 . rw[if_pos rfl];refine⟨_,rfl,?_⟩;unfold pg;exact(List.filter_eq_self.2 fun c hc=>aH (ha c hc)).symm
 . rw[if_neg (by omega),dk hk (by omega)];have h0:pg (l.take k)=l.take k:=List.filter_eq_self.2 fun c hc=>aH (ha c hc)
   have h1:∀j (hj:j<l.length),pg (l.take (j+1))=pg (l.take j)++if l[j].kind=2 then[l[j]]else[]:=fun j hj=>by
    unfold pg;rw[aB hj,List.filter_append];congr 1;by_cases h:l[j].kind=2<;>simp[h]
   have hkk:¬ l[k].kind=2:=fun h=>hnk (ba.2 ⟨by rw[bX hk];exact aA hk,by rw[bX hk];exact aH h⟩)
   obtain⟨r,hr2,i,T,rfl,q1,q2,q3⟩:=ck (f:=c7)
    (fun m s=>∃(i j:Nat) (T:List bN),s=((i:Int),(j:Int),T)/\T.length=l.length/\i<=j/\j<=l.length/\T.take i=pg (l.take j)/\T.drop j=l.drop j/\m=l.length-j)
    (fun r=>∃(i:Nat) (T:List bN),r=((i:Int),T)/\T.length=l.length/\i<=l.length/\T.take i=pg l) (fun m s hI=>by
     obtain⟨i,j,T,rfl,i1,i2,i3,i4,i5,rfl⟩:=hI;unfold c7;by_cases hj:j<l.length
     . have hjT:j<T.length:=by omega
       have e:T[j]=l[j]:=by
        have h1:=bA hjT;have h2:=bA hj;rw[i5,h2]at h1;exact(List.cons.inj h1).1.symm
       have e2:T.drop (j+1)=l.drop (j+1):=by rw[<- List.drop_drop,<- List.drop_drop,i5]
       rw[if_pos (by simp only;omega)];simp only[cN hjT,e,aa,hp,dk hj (by omega)];by_cases h2:l[j].kind=2
       . rw[if_pos (by simp[h2]),cN (show i<T.length by omega)];simp only[aa,aM];rw[dk (show i<l.length by omega) (by omega)];refine .inl ⟨_,_,rfl,by omega,i+1,j+1,T.set i l[j],rfl,by simpa using i1,by omega,hj,?_,?_,rfl⟩
         . rw[h1 j hj,if_pos h2,<- i4,aB (by simp;omega),List.getElem_set_self,List.take_set_of_le (Nat.le_refl _)]
         . rw[List.drop_set_of_lt (by omega),e2]
       . rw[if_neg (by simp[h2])];exact .inl ⟨_,_,rfl,by omega,i,j+1,T,rfl,i1,by omega,hj,by rw[h1 j hj,if_neg h2,aL];exact i4,e2,rfl⟩
     . rw[if_neg (by simp only;omega)];have:j=l.length:=by omega
       subst this;rw[bn]at i4;exact .inr ⟨_,rfl,i,T,rfl,i1,i2,i4⟩) (l.length-(k+1)) ((k:Int),((k+1:Nat):Int),l) ⟨k,k+1,l,rfl,rfl,by omega,hk,by rw[h1 k hk,if_neg hkk,aL,h0],rfl,rfl⟩
   rw[hr2];simp only[aa];rw[dX (by omega)];simp only[aa];rw[AG (by rw[Hn (by omega)];omega)];refine⟨_,rfl,?_⟩;simp only[aM];unfold EK;rw[List.take_append_of_le_length (by rw[aN];omega),List.take_take,Nat.min_self];exact q3
section
variable {a0:List UInt8}{d:bZ}{S:List bN}
noncomputable def VR(l:List bN):List bN:=(od l).map (cat l)
theorem Sg(h:Sm d S)(hn:d.bO.length<=20)(hl:d.cg=(a0.length:Int))(ha:a0.length<=1000000):
 ∃L,L.Perm (pg (k9 a0 (zn (ev d.bO)) d.bO))/\(L.Pairwise fun a b=>a.to<=b.to)/\tz a0 d.bO=some (VR d.bO++L)/\np a0 d.bO=some (VR d.bO++L):=by
 obtain⟨g,hg⟩:=MS (Zg h hn)
 have hfit:∀c∈d.bO,Fit d.b6 d.cg c:=fun c hc=>(h.vd.tR c hc).fit
 have hN:=h.UZ.1
 have hdat:∀c∈d.bO,c.data.length<=140737488355328:=h.data
 have hol:=adx (l:=d.bO)
 have hel:=SQ (l:=d.bO)
 have hodm:∀i∈od d.bO,i<d.bO.length:=fun i hi=>(ady.1 hi).1
 obtain⟨y,hy,hy2⟩:=Sn (k9 a0 (zn (ev d.bO)) d.bO) (by rw[la];omega)
 have hml:(pg (k9 a0 (zn (ev d.bO)) d.bO)).length<=20:=Nat.le_trans (bC _ _) (by rw[la];exact hn)
 obtain⟨L,hs,hp,hsr⟩:=QC.tu (pg (k9 a0 (zn (ev d.bO)) d.bO)) (by omega)
 have hsr:L.Pairwise fun a b=>a.to<=b.to:=hsr
 have hpl:=hp.length_eq
 refine⟨L,hp,hsr,?_,?_⟩
 . unfold tz
   rw[hg]
   simp only[aa]
   have hI:Iter (nf d.bO (d.bO,zn (ev d.bO),zn (od d.bO),g)) ((0:Int),([]:List bN))=some (VR d.bO):=by
    refine cb (f:=nf d.bO (d.bO,zn (ev d.bO),zn (od d.bO),g)) (od d.bO).length (fun k=>((k:Int),((od d.bO).take k).map (cat d.bO))) _ (fun k hk=>?_) ?_ (by simp)
    . unfold nf;have hlt:=hodm _ (aA hk);rw[if_pos (by rw[dC];simp only;omega)];simp only[BQ hk,aa,cN hlt,Ku _ (hdat _ (aA hlt)),dk hk (by omega)];rw[dj (by rw[aJ,aN,bp];omega),aB hk,aY,List.map_singleton,bX hlt];rfl
    . unfold nf;rw[if_neg (by rw[dC];simp only;omega),bn];rfl
   rw[hI]
   simp only[aa]
   rw[Ot hfit hN (by omega) ha (by omega) (by rw[dC];omega)]
   simp only[aa]
   rw[hy]
   have hv:∀{γ:Type} (f:List bN->Option γ),((some y).bind fun y10=>match y10 with| .inl _=>some (k9 a0 (zn (ev d.bO)) d.bO)| .inr y12=>some y12).bind f=f (pg (k9 a0 (zn (ev d.bO)) d.bO)):=fun f=>by
    rw[<- hy2];cases y<;>rfl
   refine(hv _).trans ?_
   rw[hs]
   simp only[aa]
   rw[dj (by unfold VR;rw[aJ];omega)];rfl
 . unfold np
   rw[MZ (Zg h hn)]
   simp only[aa]
   have hI:Iter (jC d.bO (zn (od d.bO))) (([]:List bN),(0:Int))=some (VR d.bO):=by
    refine cb (f:=jC d.bO (zn (od d.bO))) (od d.bO).length (fun k=>(((od d.bO).take k).map (cat d.bO),(k:Int))) _ (fun k hk=>?_) ?_ (by simp)
    . unfold jC;have hlt:=hodm _ (aA hk);rw[if_pos (by rw[dC];simp only;omega)];simp only[BQ hk,aa,cN hlt,dk hk (by omega)];rw[dj (by rw[aJ,aN,bp];omega),aB hk,aY,List.map_singleton,bX hlt];rfl
    . unfold jC;rw[if_neg (by rw[dC];simp only;omega),bn];rfl
   rw[hI]
   simp only[aa]
   rw[EE (Zg h hn)]
   simp only[aa]
   rw[JN hfit hN (by omega) ha (by omega) (by rw[dC];omega)]
   simp only[aa]
   have hI2:∀m:List bN,m.length<=1000->Iter (jD ⟨0,0,fun _=>0,fun _=>0,m⟩) (([]:List bN),(0:Int))=some (pg m):=fun m hm=>by
    refine cb (f:=jD ⟨0,0,fun _=>0,fun _=>0,m⟩) m.length (fun k=>(pg (m.take k),(k:Int))) _ (fun k hk=>?_) ?_ (by simp[pg])
    . unfold jD;have hfl:(pg (m.take k)).length<=k:=Nat.le_trans (bC _ _) (by rw[aN];omega);rw[if_pos (by simp only;omega)];simp only[cN hk,aa,dk hk (by omega)];have e:pg (m.take (k+1))=pg (m.take k)++if m[k].kind=2 then[m[k]]else[]:=by
       unfold pg;rw[aB hk,List.filter_append];congr 1;by_cases h:m[k].kind=2<;>simp[h]
      rw[e];by_cases h2:m[k].kind=2
      . rw[if_pos h2,dj (by rw[bp];omega),if_pos h2];rfl
      . rw[if_neg h2,if_neg h2,aL]
    . unfold jD;rw[if_neg (by simp),bn]
   rw[hI2 _ (by rw[la];omega)]
   simp only[aa]
   obtain⟨L2,hs2,hp2,hsr2⟩:=Tw (pg (k9 a0 (zn (ev d.bO)) d.bO)) (by omega)
   rw[hs2]
   simp only[aa]
   have hinj:∀a∈k9 a0 (zn (ev d.bO)) d.bO,∀b∈k9 a0 (zn (ev d.bO)) d.bO,a.to=b.to->a=b:=by
    have hv:=UH (a0:=a0) (a2:=zn (ev d.bO)) h;exact ZR hv
   have:L2=L:=wH _ _ (hp2.trans hp.symm) hsr2 hsr fun a ha b hb e=>hinj a (ba.1 (hp2.mem_iff.1 ha)).1 b (ba.1 (hp2.mem_iff.1 hb)).1 e
   rw[this,dj (by unfold VR;rw[aJ];omega)];rfl
end
end G
end
section
open G
namespace G
section
variable {a0:List UInt8}{d:bZ}{S:List bN}{L:List bN}
theorem Td(l:List bN)(a2:List Int):k9 a0 a2 l=(List.range l.length).map fun i=>pq a0 a2 i (cat l i):=by
 apply List.ext_getElem (by rw[la];simp);intro i h1 h2;rw[la]at h1;rw[yF l h1 (by rw[la];exact h1),List.getElem_map,List.getElem_range,bX h1]
theorem WC(l:List bN){i:Nat}:((pq a0 (zn (ev l)) i (cat l i)).kind=2↔(cat l i).kind=2\/(cat l i).kind=1/\i∈ev l):=by
 unfold pq;by_cases h:(cat l i).kind=1/\(i:Int)∈zn (ev l)
 . rw[if_pos h];rw[rJ]at h;exact⟨fun _=>.inr h,fun _=>rfl⟩
 . rw[if_neg h];rw[rJ]at h;exact⟨fun hk=>.inl hk,fun hk=>hk.elim id fun hk=>absurd hk h⟩
theorem VP(l:List bN)(hL:L.Perm (pg (k9 a0 (zn (ev l)) l))):(VR l++L).Perm (k9 a0 (zn (ev l)) l):=by
 have h1:(VR l).Perm ((k9 a0 (zn (ev l)) l).filter fun c=>!decide (c.kind=2)):=by
  rw[Td,List.filter_map];have e:(List.range l.length).filter ((fun c:bN=>!decide (c.kind=2)) ∘ fun i=>pq a0 (zn (ev l)) i (cat l i))=K0 l.length (lits l++ev l):=by
   unfold K0;refine bI fun i hi=>?_
   have hi:=List.mem_range.1 hi;simp only[Function.comp];rw[Bool.eq_iff_iff,Bool.not_eq_true',bh,au,WC,aK];have hl:i∈lits l↔(cat l i).kind=2:=by unfold lits;rw[ig,au];exact⟨fun h=>h.2,fun h=>⟨hi,h⟩⟩
   rw[hl];have he:i∈ev l->(cat l i).kind=1:=fun h=>(J3.2.2.1 i h).2
   constructor
   . rintro h (h2|h2)
     . exact h (.inl h2)
     . exact h (.inr ⟨he h2,h2⟩)
   . rintro h (h2|⟨_,h2⟩)
     . exact h (.inl h2)
     . exact h (.inr h2)
  rw[e];have h2:(K0 l.length (lits l++ev l)).map (fun i=>pq a0 (zn (ev l)) i (cat l i))=(K0 l.length (lits l++ev l)).map (cat l):=List.map_congr_left fun i hi=>by
   have:=aF (ig.1 hi).2;unfold pq;rw[if_neg fun h=>this (bL _ (rJ.1 h.2))]
  rw[h2];exact Ps.map _
 have h2:L.Perm ((k9 a0 (zn (ev l)) l).filter fun c=>!!decide (c.kind=2)):=by simpa[pg]using hL
 exact(h1.append h2).trans (List.filter_append_perm _ _)
theorem OW(h:Sm d S)(hL:L.Perm (pg (k9 a0 (zn (ev d.bO)) d.bO))):∃S',Sm ⟨d.cg,d.b6,d.dv,d.du,VR d.bO++L⟩ S'/\file a0 S'=file a0 S:=by
 obtain⟨S',h1,h2⟩:=aaT (a0:=a0) (a2:=zn (ev d.bO)) h;exact⟨S',h1.other (VP d.bO hL),h2⟩
end
end G
end
section
open IntKind(i64)
open G
namespace G
theorem acB(x:Int):0<=IntKind.u64.wrap x:=by
 simp[IntKind.wrap,IntKind.bits,IntKind.signed];omega
theorem XH(a b:Int):0<=cV .u64 a b:=acB _
theorem zU(a c:Int):∃r,bS a c=some r:=by
 unfold bS;rw[dX (XH _ _),dX (acB _)];exact⟨_,rfl⟩
theorem acK:((List.range 100).all fun i=>decide (0<=cV .i64 (i:Int) 15)&&decide (cV .i64 (i:Int) 15<16))=true:=by kernel_rfl
theorem Dp{i:Nat}(h:i<100):0<=cV .i64 (i:Int) 15/\cV .i64 (i:Int) 15<16:=by
 have:=aR.1 acK i (List.mem_range.2 h);simpa using this
theorem wr{x:Int}{k:Nat}(h:x=(k:Int))(hk:k<=9223372036854775807):i64.wrap x=(k:Int):=by rw[h];exact MA hk
theorem VH(b:List UInt8)(h:64<=b.length):∃w,Iter (gZ b) ((0:Int),(fun _=>0))=some w:=by
 obtain⟨r,hr,_⟩:=ck (f:=gZ b) (fun m s=>∃i:Nat,s.1=(i:Int)/\i<=16/\m=16-i) (fun _=>True) (by
  rintro m ⟨_,w⟩ ⟨i,hi,h16,rfl⟩;simp only at hi;subst hi;unfold gZ;by_cases hlt:i<16
  . left;rw[if_pos (by simp only;omega)];simp only[wr (k:=4*i) (show(4:Int)*(i:Int)=((4*i:Nat):Int)by omega) (by omega)];rw[wr (k:=4*i+1) (by omega) (by omega),wr (k:=4*i+2) (by omega) (by omega),wr (k:=4*i+3) (by omega) (by omega),cN (by omega),cN (by omega),cN (by omega),cN (by omega)];simp only[aa];rw[dX (by omega),wr (k:=i+1) (by omega) (by omega)];exact⟨16-(i+1),_,rfl,by omega,i+1,rfl,by omega,rfl⟩
  . right;rw[if_neg (by simp only;omega)];exact⟨_,rfl,trivial⟩) 16 ((0:Int),(fun _=>0)) ⟨0,rfl,by omega,rfl⟩
 exact⟨r,hr⟩
theorem VI(y:Nat->Int)(w v:Nat->Int):∃r,Iter (g7 y) ((0:Int),w,v)=some r:=by
 obtain⟨r,hr,_⟩:=ck (f:=g7 y) (fun m s=>∃i:Nat,s.1=(i:Int)/\i<=64/\m=64-i) (fun _=>True) (by
  rintro m ⟨_,w,v⟩ ⟨i,hi,h16,rfl⟩;simp only at hi;subst hi;unfold g7;by_cases hlt:i<64
  . left;rw[if_pos (by simp only;omega)];simp only[wr (k:=i+1) (show(i:Int)+1=((i+1:Nat):Int)by omega) (by omega),wr (k:=i+14) (show(i:Int)+14=((i+14:Nat):Int)by omega) (by omega),wr (k:=i+9) (show(i:Int)+9=((i+9:Nat):Int)by omega) (by omega)];rw[dX (by omega)];simp only[aa];obtain⟨a1,e1⟩:=zU (v 4) (-6);obtain⟨a2,e2⟩:=zU (v 4) (-11);obtain⟨a3,e3⟩:=zU (v 4) (-25);obtain⟨a4,e4⟩:=zU (v 0) (-2);obtain⟨a5,e5⟩:=zU (v 0) (-13);obtain⟨a6,e6⟩:=zU (v 0) (-22);rw[e1,e2,e3,e4,e5,e6];simp only[aa];rw[dX (Dp (i:=i) (by omega))];simp only[aa];by_cases h16:16<=i
    . rw[if_pos (by omega),dX (Dp (i:=i+1) (by omega)),dX (Dp (i:=i+14) (by omega)),dX (Dp (i:=i+9) (by omega))];obtain⟨b1,f1⟩:=zU (cw w (cV .i64 ((i+1:Nat):Int) 15)) (-7);obtain⟨b2,f2⟩:=zU (cw w (cV .i64 ((i+1:Nat):Int) 15)) (-18);obtain⟨b3,f3⟩:=zU (cw w (cV .i64 ((i+14:Nat):Int) 15)) (-17);obtain⟨b4,f4⟩:=zU (cw w (cV .i64 ((i+14:Nat):Int) 15)) (-19);rw[f1,f2,f3,f4];simp only[aa];rw[dX (by decide),dX (by decide)];exact⟨64-(i+1),_,rfl,by omega,i+1,rfl,by omega,rfl⟩
    . rw[if_neg (by omega)];simp only[aa];rw[dX (by decide),dX (by decide)];exact⟨64-(i+1),_,rfl,by omega,i+1,rfl,by omega,rfl⟩
  . right;rw[if_neg (by simp only;omega)];exact⟨_,rfl,trivial⟩) 64 ((0:Int),w,v) ⟨0,rfl,by omega,rfl⟩
 exact⟨r,hr⟩
def Qi(v w:Nat->Int):Nat->(Nat->Int)
 |0=>w
 |k+1=>bV (Qi v w k) (k:Int) (IntKind.u32.wrap ((cw (Qi v w k) (k:Int))+(cw v (k:Int))))
theorem Nj(v w:Nat->Int)(r:List UInt8)(n:Int):Iter (qc v) ((0:Int),w,r,n)=some (Qi v w 8,r,n):=by
 refine cb 8 (fun k=>((k:Int),Qi v w k,r,n)) _ (fun k hk=>?_) ?_ rfl
 . unfold qc;rw[if_pos (by simp only;omega),dX (by simp only;omega)];simp only[aa];rw[wr (k:=k+1) (by omega) (by omega)];rfl
 . unfold qc;rw[if_neg (by simp only;omega)]
theorem Qp(b:List UInt8)(h:64<=b.length)(w:Nat->Int):∃w',∀r n,lQ b w r n=some (w',r,n):=by
 obtain⟨v1,h1⟩:=VH b h;obtain⟨y,hy⟩:∃y,vp=some y:=⟨_,rfl⟩;obtain⟨v2,h2⟩:=VI y v1 w;refine⟨Qi v2 w 8,fun r n=>?_⟩;unfold lQ;rw[h1,hy];simp only[aa];rw[h2];exact Nj _ _ _ _
noncomputable def SB(b:List UInt8)(w:Nat->Int):Nat->Int:=if h:64<=b.length then(Qp b h w).choose else w
theorem Qq{b:List UInt8}(h:64<=b.length)(w:Nat->Int)(r:List UInt8)(n:Int):lQ b w r n=some (SB b w,r,n):=by
 unfold SB;rw[dif_pos h];exact(Qp b h w).choose_spec r n
noncomputable def tS(w:Nat->Int)(r:List UInt8):(Nat->Int)×List UInt8:=if 64<=r.length then tS (SB (r.take 64) w) (r.drop 64)else(w,r)
termination_by r.length
decreasing_by rw[aV];omega
theorem Mw{w:Nat->Int}{r:List UInt8}(h:¬ 64<=r.length):tS w r=(w,r):=by rw[tS,if_neg h]
theorem Oj{w:Nat->Int}{r:List UInt8}(h:64<=r.length):tS w r=tS (SB (r.take 64) w) (r.drop 64):=by rw[tS,if_pos h]
theorem IW(k:Nat):∀(w:Nat->Int) (r:List UInt8),r.length<=k->(tS w r).2.length<64/\(tS w r).2.length<=r.length:=by
 induction k using Nat.strongRecOn with
 |_ k ih=>
  intro w r hr
  by_cases h:64<=r.length
  . rw[Oj h]
    have hd:(r.drop 64).length=r.length-64:=by rw[aV]
    have:=ih (k-64) (by omega) (SB (r.take 64) w) (r.drop 64) (by omega)
    omega
  . rw[Mw h];exact⟨Nat.lt_of_not_le h,Nat.le_refl _⟩
theorem TP(k:Nat):∀(w:Nat->Int) (r b:List UInt8),r.length<=k->tS w (r++b)=tS (tS w r).1 ((tS w r).2++b):=by
 induction k using Nat.strongRecOn with
 |_ k ih=>
  intro w r b hr
  by_cases h:64<=r.length
  . rw[Oj h,Oj (r:=r++b) (by rw[ak];omega),List.take_append_of_le_length h,List.drop_append_of_le_length h]
    exact ih (k-64) (by omega) _ _ _ (by rw[aV];omega)
  . rw[Mw h]
theorem ZI(k:Nat):∀(w:Nat->Int) (r:List UInt8) (n:Int),r.length<=k->Iter qR (w,r,n)=some ((tS w r).1,(tS w r).2,n):=by
 induction k using Nat.strongRecOn with
 |_ k ih=>
  intro w r n hr
  by_cases h:64<=r.length
  . rw[jB (s':=(SB (r.take 64) w,r.drop 64,n)) ?_,Oj h]
    . exact ih (k-64) (by omega) _ _ _ (by rw[aV];omega)
    . unfold qR
      rw[if_pos (by simp only;omega),AG (by simp only;omega)]
      simp only[aa]
      rw[show(64:Int).toNat=64 from rfl,Qq (by rw[aN];omega)]
      simp only[aa]
      rw[Fv (by omega)];rfl
  . rw[Mw h]
    refine fS ?_
    unfold qR
    rw[if_neg (by simp only;omega)]
theorem PU(b:List UInt8)(w:Nat->Int)(r:List UInt8)(n:Int)(h:r.length+b.length<=140737488355328):rp b w r n=some ((tS w (r++b)).1,(tS w (r++b)).2,i64.wrap (n+(b.length:Int))):=by
 unfold rp;rw[dj (by omega)];exact ZI _ _ _ _ (Nat.le_refl _)
theorem RZ:xq=rp:=by kernel_rfl
end G
end
section
open IntKind(i64)
open G
namespace G
theorem Xf(a:List UInt8)(h:a.length<=140737488355328):fg a=some a:=by
 unfold fg
 cases a with
 |nil=>
  show agree _ ((app 1 ([]:List UInt8) []).bind fun y=>some y)=_
  rw[dj (by simp)];exact EO _
 |cons x l=>
  show((app 1 ([]:List UInt8) (x::l)).bind fun y=>some y)=_
  rw[dj (by simp at h ⊢; omega)];rfl
theorem afc{k:Nat}:Int.tmod (k:Int) 64=((k % 64:Nat):Int):=by
 rw[Int.tmod_eq_emod_of_nonneg (by omega)];omega
theorem V6(w:Nat->Int)(r:List UInt8)(n:Int)(h:r.length<64):∃x,mV w r n=some x:=by
 unfold mV;have e1:Int.tmod (i64.wrap ((119:Int)-(r.length:Int))) 64=(((119-r.length) % 64:Nat):Int):=by
  rw[wr (k:=119-r.length) (by omega) (by omega)];exact afc
 rw[e1,dX (by omega)];simp only[aa];rw[dj (by simp;omega)];simp only[aa];obtain⟨v3,h3,l3⟩:=ck (f:=gz n) (fun m s=> -1<=s.2/\s.2<=7/\(m:Int)=s.2+1/\s.1.length+m<=200) (fun x=>x.length<=200) (by
  rintro m ⟨l,i⟩ ⟨h1,h2,h4,h5⟩;simp only at h1 h2 h4 h5;unfold gz;by_cases hi:0<=i
  . left;rw[if_pos (by simp only;omega)];simp only[fm (x:=(8:Int)*i) (by omega) (by omega),fm (x:=i-1) (by omega) (by omega)];rw[dX (by omega)];simp only[aa];rw[dj (by simp;omega)];exact⟨m-1,_,rfl,by omega,by simp only;omega,by simp only;omega,by simp only;omega,by simp;omega⟩
  . right;rw[if_neg (by simp only;omega)];exact⟨_,rfl,by simp only;omega⟩) 8 ([(u8 128)]++List.replicate (((119-r.length) % 64:Nat):Int).toNat (0:UInt8),7) ⟨by simp,by simp,by simp,by simp;omega⟩
 rw[h3];simp only[aa];rw[RZ,PU _ _ _ _ (by omega)];simp only[aa];generalize ((tS w (r++v3)).1,(tS w (r++v3)).2,i64.wrap (n+(v3.length:Int)))=y;obtain⟨x,hx,_⟩:=ck (f:=jh y) (fun m s=>∃i:Nat,s.1=(i:Int)/\i<=32/\m=32-i) (fun _=>True) (by
  rintro m ⟨_,f⟩ ⟨i,hi,h16,rfl⟩;simp only at hi;subst hi;unfold jh;by_cases hlt:i<32
  . left;have d1:Int.tdiv (i:Int) 4=((i/4:Nat):Int):=by rw[Int.tdiv_eq_ediv_of_nonneg (by omega)];omega
    have d2:Int.tmod (i:Int) 4=((i % 4:Nat):Int):=by rw[Int.tmod_eq_emod_of_nonneg (by omega)];omega
    rw[if_pos (by simp only;omega)];simp only[d1,d2,wr (k:=i/4) rfl (by omega),fm (x:=((i % 4:Nat):Int)*8) (by omega) (by omega),fm (x:=(24:Int)-((i % 4:Nat):Int)*8) (by omega) (by omega),wr (k:=i+1) (show(i:Int)+1=((i+1:Nat):Int)by omega) (by omega)];rw[dX (by omega),dX (by omega),dX (by omega)];exact⟨32-(i+1),_,rfl,by omega,i+1,rfl,by omega,rfl⟩
  . right;rw[if_neg (by simp only;omega)];exact⟨_,rfl,trivial⟩) 32 ((0:Int),(fun _=>0)) ⟨0,rfl,by omega,rfl⟩
 exact⟨x,hx⟩
noncomputable def HS(w:Nat->Int)(r:List UInt8)(n:Int):Nat->UInt8:=(nY w r n).getD fun _=>0
theorem Ss(w:Nat->Int)(r:List UInt8)(n:Int)(h:r.length<64):nY w r n=some (HS w r n):=by
 obtain⟨x,hx⟩:=V6 w r n h;have e:∃y,nY w r n=some y:=by
  unfold nY sf;rw[Xf r (by omega)];simp only[aa];rw[hx];exact⟨_,rfl⟩
 obtain⟨y,hy⟩:=e;unfold HS;rw[hy];rfl
theorem Xn:∃w,DL=some (w,[],0):=⟨_,rfl⟩
noncomputable def W0:Nat->Int:=Xn.choose
theorem Ou:DL=some (W0,[],0):=Xn.choose_spec
theorem Nu{α:Type}{l:List (List α)}{k:Nat}(h:k<l.length):(l.take (k+1)).flatten=(l.take k).flatten++l[k]:=by
 rw[aB h,bm];simp
theorem aaD{α:Type}(l:List (List α))(k:Nat):(l.take k).flatten.length<=l.flatten.length:=by
 have:=congrArg (fun l=>l.flatten.length) (List.take_append_drop k l);simp only[bm,ak]at this;omega
theorem Qg(l:List (List UInt8))(w:Nat->Int)(r:List UInt8)(n:Int)(hr:r.length<64)(hl:l.length<=1000000)(hf:l.flatten.length<=1000000000)(hn:0<=n/\n<=1000000000000):
 ∃x,rn l w r n=some (x,(tS w (r++l.flatten)).1,(tS w (r++l.flatten)).2,n+(l.flatten.length:Int)):=by
 unfold rn
 have key:Iter (qQ l) ((0:Int),w,r,n)=some ((tS w (r++l.flatten)).1,(tS w (r++l.flatten)).2,n+(l.flatten.length:Int)):=by
  refine cb l.length (fun k=>((k:Int),(tS w (r++(l.take k).flatten)).1,(tS w (r++(l.take k).flatten)).2,n+((l.take k).flatten.length:Int))) _ (fun k hk=>?_) ?_ ?_
  . have h1:=aaD l (k+1);rw[Nu hk,ak]at h1;have h2:=(IW _ w (r++(l.take k).flatten) (Nat.le_refl _)).1;unfold qQ;rw[if_pos (by simp only;omega)];simp only[cN hk,aa];rw[PU _ _ _ _ (by omega)];simp only[aa];rw[dk hk (by omega),fm (by omega) (by omega),Nu hk,ak,<- az,TP _ w (r++(l.take k).flatten) l[k] (Nat.le_refl _)];rw[show n+(((l.take k).flatten.length:Nat):Int)+(l[k].length:Int)=n+(((l.take k).flatten.length+l[k].length:Nat):Int)by omega]
  . unfold qQ;rw[if_neg (by simp only;omega),bn]
  . simp[Mw (w:=w) (r:=r) (by omega)]
 rw[key]
 exact⟨_,rfl⟩
noncomputable def vn(x:List UInt8):Nat->UInt8:=HS (tS W0 x).1 (tS W0 x).2 (x.length:Int)
theorem T5(l:List (List UInt8))(hl:l.length<=1000000)(hf:l.flatten.length<=1000000000):IE l=some (vn l.flatten):=by
 unfold IE;rw[Ou];simp only[aa];obtain⟨x,hx⟩:=Qg l W0 [] 0 (by simp) hl hf (by omega);rw[hx];simp only[aa,a7,Int.zero_add];rw[Ss _ _ _ (IW _ _ _ (Nat.le_refl _)).1];rfl
end G
end
section
open G
namespace G
theorem ofInt64{x:Nat}(h:x<18446744073709551616):(BitVec.ofInt 64 (x:Int)).toNat=x:=by
 rw[BitVec.ofInt_natCast,BitVec.toNat_ofNat];exact Nat.mod_eq_of_lt h
theorem acL{x y:Nat}(hx:x<18446744073709551616)(hy:y<18446744073709551616):cV .u64 (x:Int) (y:Int)=((x &&& y:Nat):Int):=by
 unfold cV;show IntKind.u64.wrap (((BitVec.ofInt 64 (x:Int) &&& BitVec.ofInt 64 (y:Int)).toNat:Nat):Int)=_;rw[BitVec.toNat_and,ofInt64 hx,ofInt64 hy];have:x &&& y<=x:=Nat.and_le_left;exact MC (by omega) (by omega)
theorem Yo{x k m:Nat}(hx:x<18446744073709551616)(hm:m=2 ^ k-1)(hy:m<18446744073709551616):cV .u64 (x:Int) (m:Int)=((x % 2 ^ k:Nat):Int):=by
 rw[acL hx hy,hm,Nat.and_two_pow_sub_one_eq_mod]
theorem acy{x k:Nat}(hk:k<=64):eR .u64 (x:Int) (k:Int)=((x/2 ^ k:Nat):Int):=by
 unfold eR;rw[show min (k:Int).toNat IntKind.u64.bits=k by simp[IntKind.bits];omega,Int.fdiv_eq_ediv_of_nonneg _ (Int.le_of_lt (Int.pow_pos (by decide)))];simp
def car(p:Nat->Nat):Nat->Nat
 |0=>0
 |k+1=>(p k+car p k)/4294967296
def GU(p:Nat->Nat)(k:Nat):Nat:=(p k+car p k) % 4294967296
def OE(p:Nat->Nat):Nat->(Nat->Int)
 |0=>fun _=>0
 |k+1=>bV (OE p k) (k:Int) ((GU p k:Nat):Int)
theorem Qn(p:Nat->Nat):∀{k i:Nat},i<k->OE p k i=((GU p i:Nat):Int)
 |k+1,i,h=>by
  unfold OE bV;by_cases e:i=k
  . subst e;simp
  . simp only[show ¬ ((i:Int)=(k:Int))by omega,if_false];exact Qn p (by omega)
def val(f:Nat->Nat):Nat:=f 0+f 1*4294967296+f 2*18446744073709551616+f 3*79228162514264337593543950336
theorem aao(p:Nat->Nat):val (GU p)+car p 4*340282366920938463463374607431768211456=val p:=by
 unfold val GU;simp only[car];omega
theorem abl(p:Nat->Nat)(k:Nat):GU p k<4294967296:=Nat.mod_lt _ (by decide)
theorem OU{p:Nat->Nat}(hp:∀k,k<4->p k<18446744069414584320):∀k,k<=4->car p k<4294967296
 |0,_=>by unfold car;decide
 |k+1,h=>by
  have:=OU hp k (by omega);have:=hp k (by omega);unfold car;omega
theorem Fk{f:Int×Int×(Nat->Int)->Option ((Int×Int×(Nat->Int))⊕(Nat->Int))}(p:Nat->Nat)
 (hf:∀k c (a:Nat->Int),k<4->c=car p k->f ((c:Int),(k:Int),a)=some (.inl ((((p k+c)/4294967296:Nat):Int),((k+1:Nat):Int),bV a (k:Int) (((p k+c) % 4294967296:Nat):Int))))
 (he:∀(c:Int) (a:Nat->Int),f (c,4,a)=some (.inr a)):Iter f ((0:Int),(0:Int),(fun _=>0))=some (OE p 4):=by
 refine cb 4 (fun k=>((car p k:Int),(k:Int),OE p k)) _ (fun k hk=>?_) (he _ _) rfl
 rw[hf k _ _ hk rfl];rfl
def Js(a:Nat->Int)(f:Nat->Nat):Prop:=∀i,i<4->a i=(f i:Int)/\f i<4294967296
theorem GC(p:Nat->Nat):Js (OE p 4) (GU p):=fun i hi=>⟨Qn p hi,abl p i⟩
theorem JZ{k:Nat}(h:k<4):m8 (0<=(k:Int)/\(k:Int)<4)=some ():=dX (by omega)
theorem vO{x:Nat}(h:x<18446744073709551616):eR .u64 (x:Int) 32=((x/4294967296:Nat):Int)/\cV .u64 (x:Int) 4294967295=((x % 4294967296:Nat):Int):=
 ⟨acy (k:=32) (by decide),Yo (k:=32) (m:=4294967295) h (by decide) (by decide)⟩
theorem WZ{x:Nat}(h:x<18446744073709551616):IntKind.u64.wrap (x:Int)=(x:Int):=MC (by omega) (by omega)
theorem RJ{a:Nat->Int}{f:Nat->Nat}{m:Nat}(ha:Js a f)(hm:m<1048576):o4 a (m:Int)=some (OE (fun k=>f k*m) 4):=by
 have hp:∀k,k<4->f k*m<18446744069414584320:=fun k hk=>by
  have h1:=(ha k hk).2
  calc f k*m<=4294967295*1048575:=Nat.mul_le_mul (by omega) (by omega)
   _<_:=by decide
 unfold o4;refine Fk _ (fun k c b hk hc=>?_) (fun c b=>?_)
 . have h1:=hp k hk;have h2:=OU hp k (by omega);unfold sF;rw[if_pos (by simp only;omega)];simp only[JZ hk,aa];rw[show cw a (k:Int)=(f k:Int) from(ha k hk).1,show(f k:Int)*(m:Int)=((f k*m:Nat):Int)by simp,WZ (by omega),show((f k*m:Nat):Int)+(c:Int)=((f k*m+c:Nat):Int)by omega,WZ (by omega),(vO (by omega)).1,(vO (by omega)).2,dk hk (by omega)]
 . unfold sF;rw[if_neg (by simp)]
theorem Zw{a:Nat->Int}{f:Nat->Nat}(ha:Js a f):rU a=some (OE (fun k=>f k*65536) 4):=by
 have hp:∀k,k<4->f k*65536<18446744069414584320:=fun k hk=>by have h1:=(ha k hk).2;omega
 unfold rU;refine Fk _ (fun k c b hk hc=>?_) (fun c b=>?_)
 . have h1:=hp k hk;have h2:=OU hp k (by omega);unfold sG;rw[if_pos (by simp only;omega)];simp only[JZ hk,aa];have e1:qV .u64 (cw a (k:Int)) 16=((f k*65536:Nat):Int):=by
    rw[show cw a (k:Int)=(f k:Int) from(ha k hk).1];unfold qV;rw[show(2:Int) ^ (min (16:Int).toNat IntKind.u64.bits)=65536 from rfl,show(f k:Int)*65536=((f k*65536:Nat):Int)by simp];exact WZ (by omega)
   rw[e1];have h3:c<4294967296:=by rw[hc];exact h2
   clear e1 h2 hc;generalize f k*65536=q at*
   rw[show(q:Int)+(c:Int)=((q+c:Nat):Int)by omega,WZ (by omega),(vO (by omega)).1,(vO (by omega)).2,dk hk (by omega)]
 . unfold sG;rw[if_neg (by simp)]
theorem abq{a b:Nat->Int}{f g:Nat->Nat}(ha:Js a f)(hb:Js b g):tC a b=some (OE (fun k=>f k+g k) 4):=by
 have hp:∀k,k<4->f k+g k<18446744069414584320:=fun k hk=>by have h1:=(ha k hk).2;have:=(hb k hk).2;omega
 unfold tC;refine Fk _ (fun k c d hk hc=>?_) (fun c d=>?_)
 . have h1:=hp k hk;have h2:=OU hp k (by omega);unfold tU;rw[if_pos (by simp only;omega)];simp only[JZ hk,aa];rw[show cw a (k:Int)=(f k:Int) from(ha k hk).1,show cw b (k:Int)=(g k:Int) from(hb k hk).1,show(f k:Int)+(g k:Int)=((f k+g k:Nat):Int)by omega,WZ (by omega),show((f k+g k:Nat):Int)+(c:Int)=((f k+g k+c:Nat):Int)by omega,WZ (by omega),(vO (by omega)).1,(vO (by omega)).2,dk hk (by omega)]
 . unfold tU;rw[if_neg (by simp)]
theorem val_mul(f:Nat->Nat)(m:Nat):val (fun k=>f k*m)=val f*m:=by
 unfold val;simp only[bf];simp only[Nat.mul_assoc,Nat.mul_comm m,Nat.mul_left_comm m]
theorem val_add(f g:Nat->Nat):val (fun k=>f k+g k)=val f+val g:=by simp only[val];omega
theorem GV{p:Nat->Nat}(h:val p<340282366920938463463374607431768211456):val (GU p)=val p:=by have:=aao p;omega
theorem acm{x:Nat}(h:x<18446744073709551616):cV .u64 (x:Int) 65535=((x % 65536:Nat):Int)/\eR .u64 (x:Int) 16=((x/65536:Nat):Int):=
 ⟨Yo (k:=16) (m:=65535) h (by decide) (by decide),acy (k:=16) (by decide)⟩
theorem R3{a:Nat->Int}{f:Nat->Nat}{m:Nat}(ha:Js a f)(hm:m<68719476736)(hv:val f*m<340282366920938463463374607431768211456):∃r g,mS a (m:Int)=some r/\Js r g/\val g=val f*m:=by
 have e1:m=m/65536*65536+m % 65536:=by omega
 have e2:val f*(m/65536)*65536+val f*(m % 65536)=val f*m:=by rw[Nat.mul_assoc,<- Nat.mul_add,<- e1]
 unfold mS;rw[(acm (by omega)).1,(acm (by omega)).2,RJ ha (show m % 65536<1048576 by omega),RJ ha (show m/65536<1048576 by omega)];simp only[aa];rw[Zw (GC _)];simp only[aa];rw[abq (GC _) (GC _)];refine⟨_,_,rfl,GC _,?_⟩;have v1:val (GU fun k=>f k*(m % 65536))=val f*(m % 65536):=by rw[GV (by rw[val_mul];omega),val_mul]
 have v2:val (GU fun k=>f k*(m/65536))=val f*(m/65536):=by rw[GV (by rw[val_mul];omega),val_mul]
 have v3:val (GU fun k=>GU (fun k=>f k*(m/65536)) k*65536)=val f*(m/65536)*65536:=by rw[GV (by rw[val_mul,v2];omega),val_mul,v2]
 rw[GV (by rw[val_add,v1,v3];omega),val_add,v1,v3];omega
section
variable {a b:Nat->Int}{f g:Nat->Nat}
theorem DS(ha:Js a f)(hb:Js b g){k:Nat}(hk:k<4):l7 (a,b) (k:Int)=if f k=g k then some (.inl ((k:Int)-1))else some (.inr (decide (f k<g k))):=by
 unfold l7;have e1:cw a (k:Int)=(f k:Int):=(ha k hk).1;have e2:cw b (k:Int)=(g k:Int):=(hb k hk).1;rw[if_pos (by omega)];simp only[JZ hk,aa,e1,e2];by_cases h:f k=g k
 . rw[if_neg (by omega),if_pos h,fm (by omega) (by omega)]
 . rw[if_pos (by omega),if_neg h];congr 2;rw[aW];omega
theorem Vj(ha:Js a f)(hb:Js b g):Iter (l7 (a,b)) 3=some (decide (val f<=val g)):=by
 have h3:=DS ha hb (k:=3) (by decide);have h2:=DS ha hb (k:=2) (by decide);have h1:=DS ha hb (k:=1) (by decide);have h0:=DS ha hb (k:=0) (by decide);have a3:=(ha 3 (by decide)).2;have a2:=(ha 2 (by decide)).2;have a1:=(ha 1 (by decide)).2;have a0:=(ha 0 (by decide)).2;have b3:=(hb 3 (by decide)).2;have b2:=(hb 2 (by decide)).2;have b1:=(hb 1 (by decide)).2;have b0:=(hb 0 (by decide)).2;by_cases c3:f 3=g 3
 . rw[if_pos c3]at h3;refine(jB h3).trans ?_;by_cases c2:f 2=g 2
   . rw[if_pos c2]at h2;refine(jB h2).trans ?_;by_cases c1:f 1=g 1
     . rw[if_pos c1]at h1;refine(jB h1).trans ?_;by_cases c0:f 0=g 0
       . rw[if_pos c0]at h0;refine(jB h0).trans ((fS (a:=true) ?_).trans ?_)
         . unfold l7;rw[if_neg (by decide)]
         . congr 1;symm;exact aH (by unfold val;omega)
       . rw[if_neg c0]at h0;refine(fS h0).trans ?_;congr 1;rw[aW];unfold val;omega
     . rw[if_neg c1]at h1;refine(fS h1).trans ?_;congr 1;rw[aW];unfold val;omega
   . rw[if_neg c2]at h2;refine(fS h2).trans ?_;congr 1;rw[aW];unfold val;omega
 . rw[if_neg c3]at h3;refine(fS h3).trans ?_;congr 1;rw[aW];unfold val;omega
end
theorem Lk(w x y z:Nat)(hw:w<4294967296)(hx:x<4294967296)(hy:y<4294967296)(hz:z<4294967296):
 ∃f,Js (bV (bV (bV (bV (fun _=>0) 0 (w:Int)) 1 (x:Int)) 2 (y:Int)) 3 (z:Int)) f/\val f=w+x*4294967296+y*18446744073709551616+z*79228162514264337593543950336:=by
 refine⟨fun i=>if i=0 then w else if i=1 then x else if i=2 then y else z,fun i hi=>?_,?_⟩
 . match i,hi with
   |0,_=>exact⟨rfl,hw⟩
   |1,_=>exact⟨rfl,hx⟩
   |2,_=>exact⟨rfl,hy⟩
   |3,_=>exact⟨rfl,hz⟩
 . simp[val]
def lst(m n:Nat)(c:Bool):Bool:=if c then decide (m*m*m<=n*79228162514264337593543950336)else decide (m*m<=n*18446744073709551616)
theorem acn{x:Nat}(h:x<18446744073709551616):eR .u64 (x:Int) 32=((x/4294967296:Nat):Int)/\cV .u64 (x:Int) 4294967295=((x % 4294967296:Nat):Int):=vO h
theorem Yh{m n:Nat}(c:Bool)(hm:m<68719476736)(hn:n<4294967296)(hc:c=true->m<=34359738368):rT (m:Int) (n:Int) c=some (lst m n c):=by
 unfold rT lst;rw[(acn (by omega)).1,(acn (by omega)).2];obtain⟨f,hf,vf⟩:=Lk (m % 4294967296) (m/4294967296) 0 0 (by omega) (by omega) (by decide) (by decide);have vf:val f=m:=by rw[vf];omega
 have b1:val f*m<340282366920938463463374607431768211456:=by rw[vf];exact Nat.lt_of_le_of_lt (Nat.mul_le_mul (Nat.le_of_lt hm) (Nat.le_of_lt hm)) (by decide)
 obtain⟨r,g,e1,hg,vg⟩:=R3 hf hm b1;have e1':mS (bV (bV (bV (bV (fun _=>0) 0 ((m % 4294967296:Nat):Int)) 1 ((m/4294967296:Nat):Int)) 2 0) 3 0) (m:Int)=some r:=e1;rw[e1'];simp only[aa];cases c
 . obtain⟨h,hh,vh⟩:=Lk 0 0 n 0 (by decide) (by decide) hn (by decide);simp only[aI,if_false,aa];refine(Vj hg hh).trans ?_;rw[vg,vh,vf];congr 1;rw[aW];omega
 . obtain⟨h,hh,vh⟩:=Lk 0 0 0 n (by decide) (by decide) (by decide) hn;have hm3:=hc rfl;have b2:val g*m<340282366920938463463374607431768211456:=by rw[vg,vf];exact Nat.lt_of_le_of_lt (Nat.mul_le_mul (Nat.mul_le_mul hm3 hm3) hm3) (by decide)
   obtain⟨r2,g2,e2,hg2,vg2⟩:=R3 hg hm b2;simp only[if_true];rw[e2];simp only[aa];refine(Vj hg2 hh).trans ?_;rw[vg2,vg,vh,vf];congr 1;rw[aW];omega
def rtF(n:Nat)(c:Bool):Nat->Nat->Nat->Nat
 |0,lo,_=>lo
 |k+1,lo,hi=>if hi-lo>1 then(if lst ((lo+hi)/2) n c then rtF n c k ((lo+hi)/2) hi else rtF n c k lo ((lo+hi)/2))else lo
theorem DK{n:Nat}(c:Bool)(hn:n<4294967296):∀(k:Nat) {lo hi:Nat},lo<hi->hi<=68719476736->(c=true->hi<=34359738368)->hi-lo<=2 ^ k->Iter (jT (n:Int) c) ((lo:Int),(hi:Int))=some (IntKind.u32.wrap (rtF n c k lo hi:Int))
 |0,lo,hi,h1,h2,h3,h4=>by
  refine fS ?_;unfold jT;rw[MC (by simp only;omega) (by simp only;omega),if_neg (by simp only;omega)];rfl
 |k+1,lo,hi,h1,h2,h3,h4=>by
  by_cases h:hi-lo>1
  . have e1:IntKind.u64.wrap (Int.tdiv (IntKind.u64.wrap ((lo:Int)+(hi:Int))) 2)=(((lo+hi)/2:Nat):Int):=by
     rw[MC (x:=(lo:Int)+(hi:Int)) (by omega) (by omega),Int.tdiv_eq_ediv_of_nonneg (by omega),MC (by omega) (by omega)];omega
    have e2:=Yh (m:=(lo+hi)/2) c (by omega) hn (fun hc=>by have:=h3 hc;omega);unfold rtF;rw[if_pos h];cases hl:lst ((lo+hi)/2) n c
    . rw[if_neg (by simp)];refine(jB (s':=((lo:Int),(((lo+hi)/2:Nat):Int))) ?_).trans (DK c hn k (by omega) (by omega) (fun hc=>by have:=h3 hc;omega) (by rw[Nat.pow_succ]at h4;omega));unfold jT;rw[MC (by simp only;omega) (by simp only;omega),if_pos (by simp only;omega),e1,e2,hl];rfl
    . rw[if_pos rfl];refine(jB (s':=((((lo+hi)/2:Nat):Int),(hi:Int))) ?_).trans (DK c hn k (by omega) (by omega) h3 (by rw[Nat.pow_succ]at h4;omega));unfold jT;rw[MC (by simp only;omega) (by simp only;omega),if_pos (by simp only;omega),e1,e2,hl];rfl
  . unfold rtF;rw[if_neg h];refine fS ?_;unfold jT;rw[MC (by simp only;omega) (by simp only;omega),if_neg (by simp only;omega)]
def rt(n:Nat)(c:Bool):Nat:=rtF n c 36 0 (if c then 34359738368 else 68719476736) % 4294967296
theorem aby{n:Nat}(c:Bool)(hn:n<4294967296):tD (n:Int) c=some (rt n c:Int):=by
 unfold tD rt;have e:∀x:Nat,IntKind.u32.wrap (x:Int)=((x % 4294967296:Nat):Int):=fun x=>by simp[IntKind.wrap,IntKind.bits,IntKind.signed]
 cases c
 . simp only[aI,if_false,aa];exact(DK (lo:=0) (hi:=68719476736) false hn 36 (by decide) (by decide) (by simp) (by decide)).trans (by rw[e])
 . simp only[if_true,aa];exact(DK (lo:=0) (hi:=34359738368) true hn 36 (by decide) (by decide) (by simp) (by decide)).trans (by rw[e])
def ints(l:List Nat):List Int:=List.map (fun x:Nat=>(x:Int)) l
theorem uZ(l:List Nat):(ints l).length=l.length:=by unfold ints;rw[aJ]
theorem Lq{l:List Nat}{k:Nat}(h:k<l.length):idx (ints l) (k:Int)=some (l[k]:Int):=by
 rw[cN (by rw[uZ];exact h)];simp[ints]
theorem X8(a b:List Nat):ints (a++b)=ints a++ints b:=by unfold ints;rw[aY]
theorem YW{l:List Nat}{p:Nat}(hl:∀x∈l,x≠0)(hn:l.length<=1000):Iter (nN (ints l,(p:Int))) (true,(0:Int))=some (l.all fun x=>p % x !=0):=by
 refine cb l.length (fun k=>((l.take k).all fun x=>p % x !=0,(k:Int))) _ (fun k hk=>?_) ?_ (by simp)
 . unfold nN;have h1:l[k]≠0:=hl _ (aA hk);rw[if_pos (by simp only[uZ];omega),Lq hk];simp only[aa];rw[dX (by omega),dk hk (by omega),aB hk,List.all_append,Int.tmod_eq_emod_of_nonneg (by omega)];simp only[aa,List.all_cons,List.all_nil,Bool.and_true];by_cases h:p % l[k]=0
   . rw[if_pos (by omega),show(p % l[k] !=0)=false by simp[h],Bool.and_false]
   . rw[if_neg (by omega),show(p % l[k] !=0)=true by simp[h],Bool.and_true]
 . unfold nN;rw[if_neg (by simp[uZ]),bn]
def pr(n:Nat):Nat->List Nat->Nat->Option (List Nat)
 |0,_,_=>none
 |k+1,l,p=>if l.length<n then pr n k (if l.all fun x=>p % x !=0 then l++[p]else l) (p+1)else some l
theorem CQ{n:Nat}(hn:n<=1000):∀(k:Nat) {l:List Nat} {p:Nat} {r:List Nat},(∀x∈l,x≠0)->l.length<=n->p≠0->p+k<=1000000->pr n k l p=some r->Iter (kX (n:Int)) (ints l,(p:Int))=some (ints r)
 |0,_,_,_,_,_,_,_,h=>by cases h
 |k+1,l,p,r,hl,hk,hp,hpk,h=>by
  unfold pr at h;by_cases hlt:l.length<n
  . rw[if_pos hlt]at h;have e:=YW (p:=p) hl (by omega)
    cases ha:l.all fun x=>p % x !=0 with
    |false=>
     rw[ha]at h e
     refine(jB (s':=(ints l,((p+1:Nat):Int))) ?_).trans (CQ hn k hl hk (by omega) (by omega) h)
     unfold kX
     rw[if_pos (by simp only[uZ];omega),e]
     simp only[aa,aI,if_false]
     rw[MC (by omega) (by omega)];rfl
    |true=>
     rw[ha]at h e
     refine(jB (s':=(ints (l++[p]),((p+1:Nat):Int))) ?_).trans (CQ hn k (fun x hx=>?_) (by simp;omega) (by omega) (by omega) h)
     . unfold kX
       rw[if_pos (by simp only[uZ];omega),e]
       simp only[aa,if_true]
       rw[dj (by rw[uZ];simp;omega),MC (by omega) (by omega),X8];rfl
     . rcases aK.1 hx with hx|hx
       . exact hl x hx
       . simp at hx;omega
  . rw[if_neg hlt]at h;cases h;refine fS ?_;unfold kX;rw[if_neg (by simp only[uZ];omega)]
theorem Nk{n:Nat}{c:Bool}{P:List Nat}(hn:n<=1000)(h:pr n 1000 [] 2=some P)(hP:P.length<=1000)(hb:∀x∈P,x<4294967296):kW (n:Int) c=some (P.map fun x=>(rt x c:Int)):=by
 unfold kW uR;have e:=CQ hn 1000 (l:=[]) (p:=2) (by simp) (by simp) (by decide) (by decide) h;rw[show(([]:List Int),(2:Int))=(ints [],((2:Nat):Int)) from rfl,e];simp only[aa];refine cb P.length (fun k=>((P.take k).map fun x=>(rt x c:Int),(k:Int))) _ (fun k hk=>?_) ?_ (by simp)
 . unfold oZ;rw[if_pos (by simp only[uZ];omega),Lq hk];simp only[aa];rw[aby c (hb _ (aA hk))];simp only[aa];rw[dj (by simp;omega)];simp only[aa];rw[dk hk (by omega),aB hk,aY];rfl
 . unfold oZ;rw[if_neg (by simp[uZ]),bn]
def P8:List Nat:=[2,3,5,7,11,13,17,19]
def P64:List Nat:=[2,3,5,7,11,13,17,19,23,29,31,37,41,43,47,53,59,61,67,71,73,79,83,89,97,101,103,107,109,113,127,131,137,139,149,151,157,163,167,173,179,181,191,193,197,199,211,223,227,229,233,239,241,251,257,263,269,271,277,281,283,293,307,311]
theorem pr8:pr 8 1000 [] 2=some P8:=by kernel_rfl
theorem afH:pr 64 1000 [] 2=some P64:=by kernel_rfl
theorem afA:((P8++P64).all fun x=>decide (x<4294967296))=true:=by kernel_rfl
def S8:List Nat:=P8.map fun x=>rt x false
def T3:List Nat:=P64.map fun x=>rt x true
theorem Xy:mR=some ⟨ints S8,ints T3⟩:=by
 have hb:∀x∈P8++P64,x<4294967296:=fun x hx=>aF (aR.1 afA x hx)
 have e1:=Nk (c:=false) (n:=8) (by decide) pr8 (by decide) (fun x hx=>hb x (aK.2 (.inl hx)));have e2:=Nk (c:=true) (n:=64) (by decide) afH (by decide) (fun x hx=>hb x (aK.2 (.inr hx)));unfold mR;rw[show(8:Int)=((8:Nat):Int) from rfl,e1,show(64:Int)=((64:Nat):Int) from rfl,e2];simp only[aa,S8,T3,List.map_map];rfl
theorem acE:∀w,vp=some w->(List.range 64).map w=ints T3:=by
 have e:(vp.map fun w=>(List.range 64).map w)=some (ints T3):=by kernel_rfl
 intro w h;rw[h]at e;exact ar e
end G
end
section
open IntKind(i64)
open G
namespace G
def T(x:BitVec 32):Int:=(x.toNat:Int)
theorem wrap32(n:Nat):IntKind.u32.wrap (n:Int)=T (BitVec.ofNat 32 n):=by
 unfold T;rw[BitVec.toNat_ofNat];simp[IntKind.wrap,IntKind.bits,IntKind.signed]
theorem DF(x:BitVec 32):BitVec.ofInt 32 (T x)=x:=by unfold T;rw[BitVec.ofInt_natCast,BitVec.ofNat_toNat,BitVec.setWidth_eq]
theorem Su(x:BitVec 32):IntKind.u32.wrap (x.toNat:Int)=T x:=by rw[wrap32,BitVec.ofNat_toNat,BitVec.setWidth_eq]
theorem KB(a b:BitVec 32):IntKind.u32.wrap (T a+T b)=T (a+b):=by
 unfold T;rw[show(a.toNat:Int)+(b.toNat:Int)=((a.toNat+b.toNat:Nat):Int)by omega,wrap32];unfold T;rw[BitVec.toNat_ofNat,BitVec.toNat_add]
theorem Qe(a b:BitVec 32):eY .u32 (T a) (T b)=T (a ^^^ b):=by
 show IntKind.u32.wrap (((BitVec.ofInt 32 (T a) ^^^ BitVec.ofInt 32 (T b)).toNat:Nat):Int)=_;rw[DF,DF,Su]
theorem ab9(a b:BitVec 32):cV .u32 (T a) (T b)=T (a &&& b):=by
 show IntKind.u32.wrap (((BitVec.ofInt 32 (T a) &&& BitVec.ofInt 32 (T b)).toNat:Nat):Int)=_;rw[DF,DF,Su]
theorem aab(a b:BitVec 32):KQ .u32 (T a) (T b)=T (a ||| b):=by
 show IntKind.u32.wrap (((BitVec.ofInt 32 (T a) ||| BitVec.ofInt 32 (T b)).toNat:Nat):Int)=_;rw[DF,DF,Su]
theorem aep(x:BitVec 32):eY .u32 4294967295 (T x)=T (~~~x):=by
 rw[show(4294967295:Int)=T (BitVec.allOnes 32)by rfl,Qe,BitVec.allOnes_xor]
theorem Nc(x:BitVec 32){n:Nat}(h:n<=32):eR .u32 (T x) (n:Int)=T (x >>> n):=by
 unfold eR;rw[show min (n:Int).toNat IntKind.u32.bits=n by simp[IntKind.bits];omega,Int.fdiv_eq_ediv_of_nonneg _ (Int.le_of_lt (Int.pow_pos (by decide)))];unfold T;rw[BitVec.toNat_ushiftRight,Nat.shiftRight_eq_div_pow];simp
theorem aca(x:BitVec 32){n:Nat}(h:n<=32):qV .u32 (T x) (n:Int)=T (x <<< n):=by
 unfold qV;rw[show min (n:Int).toNat IntKind.u32.bits=n by simp[IntKind.bits];omega];unfold T;rw[BitVec.toNat_shiftLeft,Nat.shiftLeft_eq,show(x.toNat:Int)*2 ^ n=((x.toNat*2 ^ n:Nat):Int)by simp,wrap32];unfold T;rw[BitVec.toNat_ofNat]
def rr(x:BitVec 32)(n:Nat):BitVec 32:=x >>> n ||| x <<< (32-n)
theorem Zc:((List.range 31).all fun i=>decide (cV .u64 (IntKind.u64.wrap (-((i+1:Nat):Int))) 31=((31-i:Nat):Int)))=true:=by kernel_rfl
theorem wE(x:BitVec 32){n:Nat}(h:0<n/\n<32):bS (T x) (-(n:Int))=some (T (rr x n)):=by
 have e:=aR.1 Zc (n-1) (List.mem_range.2 (by omega));rw[au,show n-1+1=n by omega,show 31-(n-1)=32-n by omega]at e;unfold bS rr;rw[e,dX (by omega),show(32:Int)-((32-n:Nat):Int)=(n:Int)by omega,MC (by omega) (by omega),dX (by omega)];simp only[aa];rw[aca x (by omega),Nc x (by omega),aab,BitVec.or_comm]
theorem wG(x:BitVec 32){n:Nat}(h:0<n/\n<32):cD (T x) (n:Int)=some (T (rr x n)):=by
 unfold cD rr;rw[dX (by omega),show(32:Int)-(n:Int)=((32-n:Nat):Int)by omega,fm (by omega) (by omega),dX (by omega)];simp only[aa];rw[aca x (by omega),Nc x (by omega),aab]
def mI(b:List UInt8)(i:Nat):Int:=KQ .u32 (KQ .u32 (KQ .u32 (qV .u32 ((b.getD (4*i) 0).toNat:Int) 24) (qV .u32 ((b.getD (4*i+1) 0).toNat:Int) 16)) (qV .u32 ((b.getD (4*i+2) 0).toNat:Int) 8)) ((b.getD (4*i+3) 0).toNat:Int)
def mB(b:List UInt8)(i:Nat):BitVec 32:=BitVec.ofInt 32 (mI b i)
theorem ad7(x:Int):T (BitVec.ofInt 32 (IntKind.u32.wrap x))=IntKind.u32.wrap x:=by
 have e:IntKind.u32.wrap x=((x % 4294967296).toNat:Int):=by simp[IntKind.wrap,IntKind.bits,IntKind.signed];omega
 rw[e];unfold T;rw[BitVec.ofInt_natCast,BitVec.toNat_ofNat];congr 1;omega
theorem aeR(b:List UInt8)(i:Nat):mI b i=T (mB b i):=by unfold mB mI;exact(ad7 _).symm
def sg0(x:BitVec 32):BitVec 32:=rr x 7 ^^^ rr x 18 ^^^ x >>> 3
def sg1(x:BitVec 32):BitVec 32:=rr x 17 ^^^ rr x 19 ^^^ x >>> 10
def Wd(m:Nat->BitVec 32)(t:Nat):BitVec 32:=if t<16 then m t else sg1 (Wd m (t-2))+Wd m (t-7)+sg0 (Wd m (t-15))+Wd m (t-16)
termination_by t
theorem ace{m:Nat->BitVec 32}{t:Nat}(h:t<16):Wd m t=m t:=by rw[Wd,if_pos h]
theorem acd{m:Nat->BitVec 32}{t:Nat}(h:16<=t):Wd m t=sg1 (Wd m (t-2))+Wd m (t-7)+sg0 (Wd m (t-15))+Wd m (t-16):=by rw[Wd,if_neg (by omega)]
def t1(v:Nat->BitVec 32)(k w:BitVec 32):BitVec 32:=v 7+(rr (v 4) 6 ^^^ rr (v 4) 11 ^^^ rr (v 4) 25)+((v 4 &&& v 5) ^^^ (~~~(v 4) &&& v 6))+k+w
def t2(v:Nat->BitVec 32):BitVec 32:=(rr (v 0) 2 ^^^ rr (v 0) 13 ^^^ rr (v 0) 22)+((v 0 &&& v 1) ^^^ (v 0 &&& v 2) ^^^ (v 1 &&& v 2))
def step(v:Nat->BitVec 32)(k w:BitVec 32):Nat->BitVec 32
 |0=>t1 v k w+t2 v
 |4=>v 3+t1 v k w
 |i+1=>v i
def rds(K:Nat->BitVec 32)(m:Nat->BitVec 32)(s:Nat->BitVec 32):Nat->(Nat->BitVec 32)
 |0=>s
 |t+1=>step (rds K m s t) (K t) (Wd m t)
theorem aez(e f g:BitVec 32):g ^^^ (e &&& (f ^^^ g))=(e &&& f) ^^^ (~~~e &&& g):=by
 ext i;simp only[BitVec.getElem_xor,BitVec.getElem_and,BitVec.getElem_not];cases e[i]<;>cases f[i]<;>cases g[i]<;>rfl
theorem adl(a b c:BitVec 32):(a &&& b) ||| (c &&& (a ||| b))=(a &&& b) ^^^ (a &&& c) ^^^ (b &&& c):=by
 ext i;simp only[BitVec.getElem_xor,BitVec.getElem_and,BitVec.getElem_or];cases a[i]<;>cases b[i]<;>cases c[i]<;>rfl
theorem afr(b:List UInt8)(h:64<=b.length):∃w,Iter (gZ b) ((0:Int),(fun _=>0))=some w/\∀i,i<16->w i=T (mB b i):=by
 obtain⟨r,hr,hq⟩:=ck (f:=gZ b) (fun m s=>∃i:Nat,s.1=(i:Int)/\i<=16/\m=16-i/\∀j,j<i->s.2 j=T (mB b j)) (fun w=>∀i,i<16->w i=T (mB b i)) (by
  rintro m ⟨_,w⟩ ⟨i,hi,h16,rfl,hw⟩;simp only at hi hw;subst hi;unfold gZ;by_cases hlt:i<16
  . left;rw[if_pos (by simp only;omega)];simp only[wr (k:=4*i) (show(4:Int)*(i:Int)=((4*i:Nat):Int)by omega) (by omega)];rw[wr (k:=4*i+1) (by omega) (by omega),wr (k:=4*i+2) (by omega) (by omega),wr (k:=4*i+3) (by omega) (by omega),dD 0 (by omega),dD 0 (by omega),dD 0 (by omega),dD 0 (by omega)];simp only[aa];rw[dX (by omega),wr (k:=i+1) (by omega) (by omega)];refine⟨16-(i+1),_,rfl,by omega,i+1,rfl,by omega,rfl,fun j hj=>?_⟩;show bV w (i:Int) (mI b i) j=_;unfold bV;by_cases e:j=i
    . subst e;rw[if_pos rfl,aeR]
    . rw[if_neg (by omega)];exact hw j (by omega)
  . right;rw[if_neg (by simp only;omega)];exact⟨_,rfl,fun j hj=>hw j (by omega)⟩) 16 ((0:Int),(fun _=>0)) ⟨0,rfl,by omega,rfl,fun j hj=>by omega⟩
 exact⟨r,hr,hq⟩
theorem aag:((List.range 100).all fun i=>decide (cV .i64 (i:Int) 15=((i % 16:Nat):Int)))=true:=by kernel_rfl
theorem b15{i:Nat}(h:i<100):cV .i64 (i:Int) 15=((i % 16:Nat):Int):=aF (aR.1 aag i (List.mem_range.2 h))
def Rg(m:Nat->BitVec 32)(t:Nat)(w:Nat->Int):Prop:=∀j,j<max t 16->max t 16<=j+16->w (j % 16)=T (Wd m j)
theorem X1{α:Type}(f:Nat->α)(n:Nat):cw f (n:Int)=f n:=by unfold cw;simp
noncomputable def JV(t:Int)(w:Nat->Int):Option (Nat->Int):=
 if t≥(16:Int)then
  (m8 (0<=(cV .i64 (i64.wrap (t+(1:Int))) (15:Int))/\(cV .i64 (i64.wrap (t+(1:Int))) (15:Int))<16)).bind fun y13=>
  (m8 (0<=(cV .i64 (i64.wrap (t+(14:Int))) (15:Int))/\(cV .i64 (i64.wrap (t+(14:Int))) (15:Int))<16)).bind fun y14=>
  (bS (cw w (cV .i64 (i64.wrap (t+(1:Int))) (15:Int))) (-7:Int)).bind fun y15=>
  (bS (cw w (cV .i64 (i64.wrap (t+(1:Int))) (15:Int))) (-18:Int)).bind fun y16=>
  (bS (cw w (cV .i64 (i64.wrap (t+(14:Int))) (15:Int))) (-17:Int)).bind fun y17=>
  (bS (cw w (cV .i64 (i64.wrap (t+(14:Int))) (15:Int))) (-19:Int)).bind fun y18=>
  (m8 (0<=(cV .i64 t (15:Int))/\(cV .i64 t (15:Int))<16)).bind fun y19=>
  (m8 (0<=(cV .i64 (i64.wrap (t+(9:Int))) (15:Int))/\(cV .i64 (i64.wrap (t+(9:Int))) (15:Int))<16)).bind fun y20=>
  (m8 (0<=(cV .i64 t (15:Int))/\(cV .i64 t (15:Int))<16)).bind fun y21=>
  some (bV w (cV .i64 t (15:Int)) (IntKind.u32.wrap ((cw w (cV .i64 t (15:Int)))+(IntKind.u32.wrap ((IntKind.u32.wrap ((eY .u32 (eY .u32 y15 y16) (eR .u32 (cw w (cV .i64 (i64.wrap (t+(1:Int))) (15:Int))) (3:Int)))+(cw w (cV .i64 (i64.wrap (t+(9:Int))) (15:Int)))))+(eY .u32 (eY .u32 y17 y18) (eR .u32 (cw w (cV .i64 (i64.wrap (t+(14:Int))) (15:Int))) (10:Int))))))))
 else
  some w
noncomputable def rest(y8:Nat->Int)(t:Int)(w v:Nat->Int):Option ((Int×(Nat->Int)×(Nat->Int))⊕(Nat->Int)):=
 (bS (v 4) (-6:Int)).bind fun y22=>
 (bS (v 4) (-11:Int)).bind fun y23=>
 (bS (v 4) (-25:Int)).bind fun y24=>
 (m8 (0<=(cV .i64 t (15:Int))/\(cV .i64 t (15:Int))<16)).bind fun y25=>
 (bS (v 0) (-2:Int)).bind fun y26=>
 (bS (v 0) (-13:Int)).bind fun y27=>
 (bS (v 0) (-22:Int)).bind fun y28=>
 (m8 (0<=(1:Int)/\(1:Int)<8/\(1:Int)<=(8:Int)/\(8:Int)<=8)).bind fun y29=>
 (m8 (0<=(0:Int)/\(0:Int)<8/\(0:Int)<=(7:Int)/\(7:Int)<=8)).bind fun y30=>
 some (.inl ((i64.wrap (t+(1:Int))),w,(bV (bV (BS v (1:Int).toNat (0:Int).toNat (lN ((8:Int)-(1:Int)) ((7:Int)-(0:Int))).toNat) 4 (IntKind.u32.wrap (((BS v (1:Int).toNat (0:Int).toNat (lN ((8:Int)-(1:Int)) ((7:Int)-(0:Int))).toNat) 4)+(IntKind.u32.wrap ((IntKind.u32.wrap ((IntKind.u32.wrap ((IntKind.u32.wrap ((v 7)+(eY .u32 (eY .u32 y22 y23) y24)))+(eY .u32 (v 6) (cV .u32 (v 4) (eY .u32 (v 5) (v 6))))))+(cw y8 t)))+(cw w (cV .i64 t (15:Int)))))))) 0 (IntKind.u32.wrap ((IntKind.u32.wrap ((IntKind.u32.wrap ((IntKind.u32.wrap ((IntKind.u32.wrap ((v 7)+(eY .u32 (eY .u32 y22 y23) y24)))+(eY .u32 (v 6) (cV .u32 (v 4) (eY .u32 (v 5) (v 6))))))+(cw y8 t)))+(cw w (cV .i64 t (15:Int)))))+(IntKind.u32.wrap ((eY .u32 (eY .u32 y26 y27) y28)+(KQ .u32 (cV .u32 (v 0) (v 1)) (cV .u32 (v 2) (KQ .u32 (v 0) (v 1)))))))))))
theorem aeQ(y:Nat->Int)(t:Int)(w v:Nat->Int):g7 y (t,w,v)=if t<64 then(m8 (0<=t/\t<64)).bind fun _=>(JV t w).bind fun w'=>rest y t w' v else some (.inr v):=rfl
theorem ad3{m:Nat->BitVec 32}{w:Nat->Int}{t:Nat}(hlt:t<64)(hw:Rg m t w):∃w',JV (t:Int) w=some w'/\Rg m (t+1) w'/\w' (t % 16)=T (Wd m t):=by
 unfold JV;simp only[wr (k:=t+1) (show(t:Int)+1=((t+1:Nat):Int)by omega) (by omega),wr (k:=t+14) (show(t:Int)+14=((t+14:Nat):Int)by omega) (by omega),wr (k:=t+9) (show(t:Int)+9=((t+9:Nat):Int)by omega) (by omega)];simp only[b15 (i:=t) (by omega),b15 (i:=t+1) (by omega),b15 (i:=t+14) (by omega),b15 (i:=t+9) (by omega),X1];by_cases h16:16<=t
 . have x1:=hw (t-15) (by omega) (by omega);have x2:=hw (t-2) (by omega) (by omega);have x7:=hw (t-7) (by omega) (by omega);have x16:=hw (t-16) (by omega) (by omega);rw[show(t-15) % 16=(t+1) % 16 by omega]at x1;rw[show(t-2) % 16=(t+14) % 16 by omega]at x2;rw[show(t-7) % 16=(t+9) % 16 by omega]at x7;rw[show(t-16) % 16=t % 16 by omega]at x16;rw[if_pos (by omega),x1,x2,x7,x16,show(-7:Int)= -((7:Nat):Int) from rfl,show(-18:Int)= -((18:Nat):Int) from rfl,show(-17:Int)= -((17:Nat):Int) from rfl,show(-19:Int)= -((19:Nat):Int) from rfl,wE _ (by decide),wE _ (by decide),wE _ (by decide),wE _ (by decide)];rw[dX (by omega),dX (by omega),dX (by omega),dX (by omega)];simp only[aa,show eR .u32 (T (Wd m (t-15))) 3=T (Wd m (t-15) >>> 3) from Nc _ (n:=3) (by decide),show eR .u32 (T (Wd m (t-2))) 10=T (Wd m (t-2) >>> 10) from Nc _ (n:=10) (by decide),Qe,KB];have e3:Wd m (t-16)+((rr (Wd m (t-15)) 7 ^^^ rr (Wd m (t-15)) 18 ^^^ Wd m (t-15) >>> 3)+Wd m (t-7)+(rr (Wd m (t-2)) 17 ^^^ rr (Wd m (t-2)) 19 ^^^ Wd m (t-2) >>> 10))=Wd m t:=by
    rw[acd h16];unfold sg0 sg1;ac_rfl
   rw[e3];refine⟨_,rfl,fun j hj hj'=>?_,?_⟩
   . unfold bV;by_cases e:j=t
     . subst e;rw[if_pos rfl]
     . rw[if_neg (by omega)];exact hw j (by omega) (by omega)
   . unfold bV;rw[if_pos rfl]
 . rw[if_neg (by omega)];exact⟨w,rfl,fun j hj hj'=>hw j (by omega) (by omega),hw t (by omega) (by omega)⟩
theorem abv{K m V:Nat->BitVec 32}{y w v:Nat->Int}{t:Nat}(hlt:t<64)(hy:y t=T (K t))(hw:w (t % 16)=T (Wd m t))(hv:∀i,i<8->v i=T (V i)):
 ∃v',rest y (t:Int) w v=some (.inl (((t+1:Nat):Int),w,v'))/\∀i,i<8->v' i=T (step V (K t) (Wd m t) i):=by
 have hv0:=hv 0 (by decide);have hv1:=hv 1 (by decide);have hv2:=hv 2 (by decide);have hv3:=hv 3 (by decide);have hv4:=hv 4 (by decide);have hv5:=hv 5 (by decide);have hv6:=hv 6 (by decide);have hv7:=hv 7 (by decide)
 unfold rest
 simp only[wr (k:=t+1) (show(t:Int)+1=((t+1:Nat):Int)by omega) (by omega),b15 (i:=t) (by omega),X1]
 rw[hv4,hv0,show(-6:Int)= -((6:Nat):Int) from rfl,show(-11:Int)= -((11:Nat):Int) from rfl,show(-25:Int)= -((25:Nat):Int) from rfl,show(-2:Int)= -((2:Nat):Int) from rfl,show(-13:Int)= -((13:Nat):Int) from rfl,show(-22:Int)= -((22:Nat):Int) from rfl]
 rw[wE _ (by decide),wE _ (by decide),wE _ (by decide),wE _ (by decide),wE _ (by decide),wE _ (by decide),dX (by omega),dX (by decide),dX (by decide)]
 simp only[aa,hv1,hv2,hv5,hv6,hv7,hy,hw,Qe,ab9,aab,KB]
 refine⟨_,rfl,fun i hi=>?_⟩
 have e1:V 7+(rr (V 4) 6 ^^^ rr (V 4) 11 ^^^ rr (V 4) 25)+(V 6 ^^^ (V 4 &&& (V 5 ^^^ V 6)))+K t+Wd m t=t1 V (K t) (Wd m t):=by unfold t1;rw[aez]
 have e2:(rr (V 0) 2 ^^^ rr (V 0) 13 ^^^ rr (V 0) 22)+((V 0 &&& V 1) ||| (V 2 &&& (V 0 ||| V 1)))=t2 V:=by unfold t2;rw[adl]
 rw[e1,e2]
 show bV (bV (BS v 1 0 7) 4 (IntKind.u32.wrap (v 3+_))) 0 _ i=T (step V (K t) (Wd m t) i)
 rw[hv3,KB]
 match i,hi with
 |0,_=>rfl
 |1,_=>exact hv0
 |2,_=>exact hv1
 |3,_=>exact hv2
 |4,_=>rfl
 |5,_=>exact hv4
 |6,_=>exact hv5
 |7,_=>exact hv6
theorem afs{K m s:Nat->BitVec 32}{y w v:Nat->Int}(hy:∀t,t<64->y t=T (K t))(hw:Rg m 0 w)(hv:∀i,i<8->v i=T (s i)):
 ∃r,Iter (g7 y) ((0:Int),w,v)=some r/\∀i,i<8->r i=T (rds K m s 64 i):=by
 refine ck (f:=g7 y) (fun n st=>∃t:Nat,st.1=(t:Int)/\t<=64/\n=64-t/\Rg m t st.2.1/\∀i,i<8->st.2.2 i=T (rds K m s t i)) (fun r=>∀i,i<8->r i=T (rds K m s 64 i)) (by
  rintro n ⟨_,w,v⟩ ⟨t,ht,h64,rfl,hw,hv⟩;simp only at ht hw hv;subst ht;rw[aeQ];by_cases hlt:t<64
  . left;obtain⟨w',h1,h2,h3⟩:=ad3 hlt hw;obtain⟨v',h4,h5⟩:=abv hlt (hy t hlt) h3 hv;rw[if_pos (by omega),dX (by omega),h1];simp only[aa];rw[h4];exact⟨64-(t+1),_,rfl,by omega,t+1,rfl,by omega,rfl,h2,h5⟩
  . right;rw[if_neg (by omega)];obtain rfl:t=64:=by omega
    exact⟨_,rfl,hv⟩) 64 _ ⟨0,rfl,by omega,rfl,hw,hv⟩
def comp(K:Nat->BitVec 32)(b:List UInt8)(s:Nat->BitVec 32)(i:Nat):BitVec 32:=s i+rds K (mB b) s 64 i
theorem Qj{v w:Nat->Int}{s r:Nat->BitVec 32}(hw:∀i,i<8->w i=T (s i))(hv:∀i,i<8->v i=T (r i)):∀(k:Nat),k<=8->∀i,i<8->Qi v w k i=T (if i<k then s i+r i else s i)
 |0,_,i,hi=>by rw[if_neg (by omega)];exact hw i hi
 |k+1,hk,i,hi=>by
  have ih:=Qj hw hv k (by omega);unfold Qi;rw[X1,X1,ih k (by omega),if_neg (by omega),hv k (by omega),KB];unfold bV;by_cases e:i=k
  . subst e;rw[if_pos rfl,if_pos (by omega)]
  . rw[if_neg (by omega),ih i hi];by_cases h:i<k
    . rw[if_pos h,if_pos (by omega)]
    . rw[if_neg h,if_neg (by omega)]
theorem VK{K:Nat->BitVec 32}(hK:∀y,vp=some y->∀t,t<64->y t=T (K t)){b:List UInt8}(h:64<=b.length){w:Nat->Int}{s:Nat->BitVec 32}(hw:∀i,i<8->w i=T (s i)):∀i,i<8->SB b w i=T (comp K b s i):=by
 obtain⟨v1,h1,m1⟩:=afr b h;obtain⟨y,hy⟩:∃y,vp=some y:=⟨_,rfl⟩;obtain⟨v2,h2,m2⟩:=afs (K:=K) (m:=mB b) (hK y hy) (w:=v1) (fun j hj hj'=>by rw[ace (by omega),Nat.mod_eq_of_lt (by omega)];exact m1 j (by omega)) hw;have e:lQ b w [] 0=some (Qi v2 w 8,[],0):=by
  unfold lQ;rw[h1,hy];simp only[aa];rw[h2];exact Nj _ _ _ _
 rw[Qq h]at e;rw[(Prod.mk.inj (ar e)).1];intro i hi;rw[Qj hw m2 8 (by decide) i hi,if_pos hi];rfl
end G
end
section
open IntKind(i64)
open G
namespace G
def L8(v:Nat->BitVec 32):List Int:=[T (v 0),T (v 1),T (v 2),T (v 3),T (v 4),T (v 5),T (v 6),T (v 7)]
theorem Oq{v:Nat->BitVec 32}{i:Nat}(h:i<8):idx (L8 v) (i:Int)=some (T (v i)):=by
 match i,h with
 |0,_=>rfl
 |1,_=>rfl
 |2,_=>rfl
 |3,_=>rfl
 |4,_=>rfl
 |5,_=>rfl
 |6,_=>rfl
 |7,_=>rfl
def ws(m:Nat->BitVec 32)(k:Nat):List Int:=(List.range k).map fun i=>T (Wd m i)
theorem Vk(m:Nat->BitVec 32)(k:Nat):ws m (k+1)=ws m k++[T (Wd m k)]:=by unfold ws;rw[List.range_succ,aY];rfl
theorem TW(m:Nat->BitVec 32)(k:Nat):(ws m k).length=k:=by simp[ws]
theorem MB(m:Nat->BitVec 32){k i:Nat}(h:i<k):idx (ws m k) (i:Int)=some (T (Wd m i)):=by
 rw[cN (by rw[TW];exact h)];simp[ws]
theorem RL{b:List UInt8}(h:64<=b.length):oz b=some (ws (mB b) 64):=by
 unfold oz;have e1:Iter (mo b) (([]:List Int),(0:Int))=some (ws (mB b) 16):=by
  refine cb 16 (fun k=>(ws (mB b) k,(k:Int))) _ (fun i hi=>?_) ?_ rfl
  . unfold mo;rw[if_pos (by simp only;omega)];simp only[wr (k:=4*i) (show(4:Int)*(i:Int)=((4*i:Nat):Int)by omega) (by omega)];rw[wr (k:=4*i+1) (by omega) (by omega),wr (k:=4*i+2) (by omega) (by omega),wr (k:=4*i+3) (by omega) (by omega),dD 0 (by omega),dD 0 (by omega),dD 0 (by omega),dD 0 (by omega)];simp only[aa];rw[dj (by rw[TW];simp;omega),wr (k:=i+1) (by omega) (by omega)];simp only[aa];rw[Vk,ace hi,<- aeR];rfl
  . unfold mo;rw[if_neg (by simp only;omega)]
 rw[e1];simp only[aa];refine cb 48 (fun k=>(ws (mB b) (16+k),((16+k:Nat):Int))) _ (fun k hk=>?_) ?_ rfl
 . unfold pZ;rw[if_pos (by simp only;omega)];simp only[wr (k:=16+k-15) (show((16+k:Nat):Int)-15=((16+k-15:Nat):Int)by omega) (by omega),wr (k:=16+k-2) (show((16+k:Nat):Int)-2=((16+k-2:Nat):Int)by omega) (by omega),wr (k:=16+k-7) (show((16+k:Nat):Int)-7=((16+k-7:Nat):Int)by omega) (by omega),wr (k:=16+k-16) (show((16+k:Nat):Int)-16=((16+k-16:Nat):Int)by omega) (by omega)];rw[MB _ (by omega),MB _ (by omega),MB _ (by omega),MB _ (by omega)];simp only[aa];rw[show(7:Int)=((7:Nat):Int) from rfl,show(18:Int)=((18:Nat):Int) from rfl,show(17:Int)=((17:Nat):Int) from rfl,show(19:Int)=((19:Nat):Int) from rfl,wG _ (by decide),wG _ (by decide),wG _ (by decide),wG _ (by decide)];simp only[aa,show ∀x,eR .u32 (T x) 3=T (x >>> 3) from fun x=>Nc x (n:=3) (by decide),show ∀x,eR .u32 (T x) 10=T (x >>> 10) from fun x=>Nc x (n:=10) (by decide),Qe,KB];rw[dj (by rw[TW];simp;omega),wr (k:=16+(k+1)) (by omega) (by omega)];simp only[aa];rw[show 16+(k+1)=(16+k)+1 from rfl,Vk,acd (t:=16+k) (by omega)];rfl
 . unfold pZ;rw[if_neg (by simp only;omega)]
theorem XJ{K m V:Nat->BitVec 32}{wl kl:List Int}{t:Nat}(hlt:t<64)(hw:idx wl (t:Int)=some (T (Wd m t)))(hk:idx kl (t:Int)=some (T (K t))):
 lZ wl kl (L8 V,(t:Int))=some (.inl (L8 (step V (K t) (Wd m t)),((t+1:Nat):Int))):=by
 unfold lZ
 rw[if_pos (by simp only;omega)]
 simp only[show idx (L8 V) 4=some (T (V 4)) from rfl,show idx (L8 V) 0=some (T (V 0)) from rfl,show idx (L8 V) 7=some (T (V 7)) from rfl,show idx (L8 V) 5=some (T (V 5)) from rfl,show idx (L8 V) 6=some (T (V 6)) from rfl,show idx (L8 V) 1=some (T (V 1)) from rfl,show idx (L8 V) 2=some (T (V 2)) from rfl,show idx (L8 V) 3=some (T (V 3)) from rfl,hw,hk,aa]
 rw[show cD (T (V 4)) 6=_ from wG _ (n:=6) (by decide),show cD (T (V 4)) 11=_ from wG _ (n:=11) (by decide),show cD (T (V 4)) 25=_ from wG _ (n:=25) (by decide),show cD (T (V 0)) 2=_ from wG _ (n:=2) (by decide),show cD (T (V 0)) 13=_ from wG _ (n:=13) (by decide),show cD (T (V 0)) 22=_ from wG _ (n:=22) (by decide)]
 simp only[aa,aep,Qe,ab9,aab,KB]
 rw[wr (k:=t+1) (by omega) (by omega)];rfl
theorem VJ{K m s:Nat->BitVec 32}{wl kl:List Int}(hw:∀t:Nat,t<64->idx wl (t:Int)=some (T (Wd m t)))(hk:∀t:Nat,t<64->idx kl (t:Int)=some (T (K t))):
 rS (L8 s) wl kl=some (L8 fun i=>s i+rds K m s 64 i):=by
 unfold rS
 rw[dj (by simp[L8])]
 simp only[aa,a7]
 have e:Iter (lZ wl kl) (L8 s,(0:Int))=some (L8 (rds K m s 64)):=by
  refine cb 64 (fun t=>(L8 (rds K m s t),(t:Int))) _ (fun t ht=>?_) ?_ rfl
  . rw[XJ ht (hw t ht) (hk t ht)];rfl
  . unfold lZ;rw[if_neg (by simp only;omega)]
 rw[e]
 simp only[aa]
 generalize rds K m s 64=v
 refine cb 8 (fun k=>((L8 fun i=>s i+v i).take k,(k:Int))) _ (fun k hk=>?_) ?_ rfl
 . unfold sE
   rw[if_pos (by simp only;omega),Oq hk,Oq hk]
   simp only[aa]
   rw[dj (by simp[L8];omega),KB,wr (k:=k+1) (by omega) (by omega)]
   simp only[aa]
   match k,hk with
   |0,_=>rfl
   |1,_=>rfl
   |2,_=>rfl
   |3,_=>rfl
   |4,_=>rfl
   |5,_=>rfl
   |6,_=>rfl
   |7,_=>rfl
 . unfold sE
   rw[if_neg (by simp only;omega)];rfl
def Kc(t:Nat):BitVec 32:=BitVec.ofNat 32 (T3.getD t 0)
def Sc(t:Nat):BitVec 32:=BitVec.ofNat 32 (S8.getD t 0)
theorem Z6:(T3.all fun x=>decide (x<4294967296))=true:=by kernel_rfl
theorem ab7:T3.length=64:=by kernel_rfl
theorem aek{t:Nat}(h:t<64):(T3.getD t 0:Int)=T (Kc t):=by
 unfold T Kc;have hl:=ab7;have:T3.getD t 0<4294967296:=by
  rw[List.getD_eq_getElem?_getD,List.getElem?_eq_getElem (by omega)];exact aF (aR.1 Z6 _ (aA _))
 rw[BitVec.toNat_ofNat,Nat.mod_eq_of_lt this]
theorem ab6{t:Nat}(h:t<64):idx (ints T3) (t:Int)=some (T (Kc t)):=by
 have hl:=ab7;rw[Lq (by omega),<- aek h,List.getD_eq_getElem?_getD,List.getElem?_eq_getElem (by omega)];rfl
theorem ael(y:Nat->Int)(hy:vp=some y)(t:Nat)(ht:t<64):y t=T (Kc t):=by
 have h:=acE y hy;have h:=congrArg (fun l=>idx l (t:Int)) h;simp only[ab6 ht]at h;rw[cN (by simpa using ht)]at h;simpa using h
theorem afq:ints S8=L8 Sc:=by kernel_rfl
theorem acI{i:Nat}(h:i<8):W0 i=T (Sc i):=by
 have e:(DL.map fun x=>(List.range 8).map x.1)=some (L8 Sc):=by kernel_rfl
 rw[Ou]at e;have e:=congrArg (fun l=>idx l (i:Int)) (ar e);simp only[Oq h]at e;rw[cN (by simpa using h)]at e;simpa using e
def cS(s:Nat->BitVec 32)(r:List UInt8):Nat->BitVec 32:=if 64<=r.length then cS (comp Kc (r.take 64) s) (r.drop 64)else s
termination_by r.length
decreasing_by rw[aV];omega
theorem ach{s:Nat->BitVec 32}{r:List UInt8}(h:64<=r.length):cS s r=cS (comp Kc (r.take 64) s) (r.drop 64):=by rw[cS,if_pos h]
theorem aci{s:Nat->BitVec 32}{r:List UInt8}(h:¬ 64<=r.length):cS s r=s:=by rw[cS,if_neg h]
theorem afa(k:Nat):∀(w:Nat->Int) (s:Nat->BitVec 32) (r:List UInt8),r.length<=k->(∀i,i<8->w i=T (s i))->∀i,i<8->(tS w r).1 i=T (cS s r i):=by
 induction k using Nat.strongRecOn with
 |_ k ih=>
  intro w s r hr hw
  by_cases h:64<=r.length
  . rw[Oj h,ach h]
    exact ih (k-64) (by omega) _ _ _ (by rw[aV];omega) (VK ael (by rw[aN];omega) hw)
  . rw[Mw h,aci h];exact hw
theorem abU(k:Nat):∀(w:Nat->Int) (r:List UInt8),r.length<=k->(tS w r).2.length=r.length % 64:=by
 induction k using Nat.strongRecOn with
 |_ k ih=>
  intro w r hr
  by_cases h:64<=r.length
  . rw[Oj h,ih (k-64) (by omega) _ _ (by rw[aV];omega),aV];omega
  . rw[Mw h];show r.length=_;omega
theorem Nd{m:List UInt8}(hm:m.length<=1000000000):∀(k p:Nat) (s:Nat->BitVec 32),p+64*k=m.length->Iter (ni ⟨ints S8,ints T3⟩ m) (L8 s,(p:Int))=some (L8 (cS s (m.drop p)))
 |0,p,s,h=>by
  rw[aci (by rw[aV];omega)];refine fS ?_;unfold ni;rw[if_neg (by simp only;omega)]
 |k+1,p,s,h=>by
  have hd:64<=(m.drop p).length:=by rw[aV];omega
  have ht:64<=((m.drop p).take 64).length:=by rw[aN];omega
  rw[ach hd,List.drop_drop];refine(jB ?_).trans (Nd hm k (p+64) (comp Kc ((m.drop p).take 64) s) (by omega));unfold ni;rw[if_pos (by simp only;omega)];simp only[wr (k:=p+64) (show(p:Int)+64=((p+64:Nat):Int)by omega) (by omega)];rw[IG (by omega)];simp only[aa,aM];rw[List.drop_take,show p+64-p=64 by omega,RL ht];simp only[aa];rw[VJ (m:=mB ((m.drop p).take 64)) (K:=Kc) (fun t h=>MB _ h) (fun t h=>ab6 h)];rfl
def t8(n:Int):List UInt8:=(List.range 8).map fun j:Nat=>u8 (eR .u64 (IntKind.u64.wrap (IntKind.u64.wrap n*8)) (i64.wrap (8*(7-(j:Int)))))
theorem Mv(n:Int):(t8 n).length=8:=by simp[t8]
theorem Vc(n:Int)(l:List UInt8)(hl:l.length<=1000000000):Iter (gz n) (l,(7:Int))=some (l++t8 n):=by
 refine cb 8 (fun k=>(l++(t8 n).take k,7-(k:Int))) _ (fun k hk=>?_) ?_ (by simp)
 . unfold gz;rw[if_pos (by simp only;omega),dX (by simp only;rw[fm (by omega) (by omega)];omega)];simp only[aa];rw[dj (by simp;omega),fm (x:=7-(k:Int)-1) (by omega) (by omega),aB (by rw[Mv];exact hk),<- az,show 7-(k:Int)-1=7-((k+1:Nat):Int)by omega];simp only[aa,t8,List.getElem_map,List.getElem_range]
 . unfold gz;rw[if_neg (by simp only;omega),br (by rw[Mv];omega)]
def zs(n:Nat):List UInt8:=128::(List.replicate ((119-n % 64) % 64) 0)
theorem P0(n:Nat):(zs n).length=(119-n % 64) % 64+1:=by simp[zs]
def pad(b:List UInt8):List UInt8:=b++(zs b.length++t8 (b.length:Int))
theorem abm(b:List UInt8):∃k,(pad b).length=64*k:=by
 refine⟨(b.length+8)/64+1,?_⟩;unfold pad;rw[ak,ak,P0,Mv];omega
theorem adK{b:List UInt8}(hb:b.length<=100000000):uQ b=some (pad b):=by
 unfold uQ;rw[dj (by simp;omega)];simp only[aa,a7];rw[dj (by simp;omega)];simp only[aa];have e:Iter qK (b++[u8 128])=some (b++zs b.length):=by
  refine cb ((119-b.length % 64) % 64) (fun k=>b++((128:UInt8)::List.replicate k 0)) _ (fun k hk=>?_) ?_ rfl
  . unfold qK;have hl:(b++((128:UInt8)::List.replicate k 0)).length=b.length+1+k:=by simp;omega
    rw[hl,if_pos (by rw[Int.tmod_eq_emod_of_nonneg (by omega)];omega),dj (by rw[hl];simp;omega)];simp only[aa,az,bD];rw[show u8 0=(0:UInt8) from rfl,List.replicate_succ' (n:=k)]
  . unfold qK;have hl:(b++((128:UInt8)::List.replicate ((119-b.length % 64) % 64) 0)).length=b.length+1+(119-b.length % 64) % 64:=by simp;omega
    rw[hl,if_neg (by rw[Int.tmod_eq_emod_of_nonneg (by omega)];omega)];rfl
 rw[e];simp only[aa];rw[show zm b=gz (b.length:Int) from rfl,Vc _ _ (by rw[ak,P0];omega)];unfold pad;rw[az]
def abk(wd:Nat->Int)(i:Nat):UInt8:=u8 (eR .u32 (wd (i/4)) (24-8*((i % 4:Nat):Int)))
def Ip(wd:Nat->Int):Nat->(Nat->UInt8)
 |0=>fun _=>0
 |k+1=>bV (Ip wd k) (k:Int) (abk wd k)
theorem LY{a b:Nat->Int}(h:∀i,i<8->a i=b i):∀k,k<=32->Ip a k=Ip b k
 |0,_=>rfl
 |k+1,hk=>by unfold Ip abk;rw[LY h k (by omega),h (k/4) (by omega)]
theorem tq(i:Nat):Int.tdiv (i:Int) 4=((i/4:Nat):Int)/\Int.tmod (i:Int) 4=((i % 4:Nat):Int):=by
 refine⟨?_,?_⟩
 . rw[Int.tdiv_eq_ediv_of_nonneg (by omega)];omega
 . rw[Int.tmod_eq_emod_of_nonneg (by omega)];omega
theorem adI(y:(Nat->Int)×List UInt8×Int):Iter (jh y) ((0:Int),(fun _=>0))=some (Ip y.1 32,y.1,y.2.1,y.2.2):=by
 refine cb 32 (fun k=>((k:Int),Ip y.1 k)) _ (fun k hk=>?_) ?_ rfl
 . unfold jh;rw[if_pos (by simp only;omega)];simp only[(tq k).1,(tq k).2,wr (k:=k/4) rfl (by omega),fm (x:=((k % 4:Nat):Int)*8) (by omega) (by omega),fm (x:=(24:Int)-((k % 4:Nat):Int)*8) (by omega) (by omega),wr (k:=k+1) (show(k:Int)+1=((k+1:Nat):Int)by omega) (by omega)];rw[dX (by omega),dX (by omega),dX (by omega)];simp only[aa,X1];rw[show Ip y.1 (k+1)=bV (Ip y.1 k) (k:Int) (abk y.1 k) from rfl];unfold abk;rw[Int.mul_comm]
 . unfold jh;rw[if_neg (by simp only;omega)]
theorem YT(s:Nat->BitVec 32):Iter (pY (L8 s)) ((0:Int),(fun _=>0))=some (Ip (fun i=>T (s i)) 32):=by
 refine cb 32 (fun k=>((k:Int),Ip (fun i=>T (s i)) k)) _ (fun k hk=>?_) ?_ rfl
 . unfold pY;rw[if_pos (by simp only;omega)];simp only[(tq k).1,(tq k).2,wr (k:=k/4) rfl (by omega),fm (x:=(8:Int)*((k % 4:Nat):Int)) (by omega) (by omega),fm (x:=(24:Int)-8*((k % 4:Nat):Int)) (by omega) (by omega),wr (k:=k+1) (show(k:Int)+1=((k+1:Nat):Int)by omega) (by omega)];rw[Oq (by omega),dX (by omega),dX (by omega)];rfl
 . unfold pY;rw[if_neg (by simp only;omega)]
theorem aaa(w:Nat->Int)(r:List UInt8)(n:Int)(h:r.length<64):HS w r n=Ip (tS w (r++(zs r.length++t8 n))).1 32:=by
 have e:mV w r n=some (Ip (tS w (r++(zs r.length++t8 n))).1 32,(tS w (r++(zs r.length++t8 n))).1,(tS w (r++(zs r.length++t8 n))).2,i64.wrap (n+((zs r.length++t8 n).length:Int))):=by
  unfold mV;have e1:Int.tmod (i64.wrap ((119:Int)-(r.length:Int))) 64=(((119-r.length) % 64:Nat):Int):=by
   rw[wr (k:=119-r.length) (by omega) (by omega)];exact afc
  rw[e1,dX (by omega)];simp only[aa];rw[dj (by simp;omega)];simp only[aa];have hz:[u8 128]++List.replicate (((119-r.length) % 64:Nat):Int).toNat (0:UInt8)=zs r.length:=by
   unfold zs;rw[Nat.mod_eq_of_lt (show r.length<64 from h)];rfl
  have hl:=P0 r.length;rw[hz,Vc _ _ (by omega)];simp only[aa];rw[RZ,PU _ _ _ _ (by rw[ak,Mv];omega)];simp only[aa];exact adI _
 unfold HS nY sf;rw[Xf r (by omega)];simp only[aa];rw[e];rfl
theorem Zv(x:List UInt8):vn x=Ip (fun i=>T (cS Sc (pad x) i)) 32:=by
 unfold vn;have hr:=abU _ W0 x (Nat.le_refl _);rw[aaa _ _ _ (IW _ _ _ (Nat.le_refl _)).1];have hz:zs (tS W0 x).2.length=zs x.length:=by unfold zs;rw[hr,Nat.mod_mod]
 rw[hz,<- TP _ W0 x _ (Nat.le_refl _)];exact LY (fun i hi=>afa _ _ _ _ (Nat.le_refl _) (fun i hi=>acI hi) i hi) 32 (Nat.le_refl _)
theorem Vz{b:List UInt8}(hb:b.length<=100000000):jq b ⟨ints S8,ints T3⟩=some (vn b):=by
 obtain⟨k,hk⟩:=abm b;have hl:(pad b).length<=1000000000:=by unfold pad;rw[ak,ak,P0,Mv];omega
 unfold jq;rw[adK hb];simp only[aa];have e:=Nd hl k 0 Sc (by omega);rw[List.drop_zero]at e;rw[afq]at e ⊢;have e:Iter (ni ⟨L8 Sc,ints T3⟩ (pad b)) (L8 Sc,(0:Int))=_:=e;rw[e];simp only[aa];rw[YT,Zv]
end G
end
end Go.Proofs.YtekpafdhgkocaaaGreat
namespace Go.Proofs.YtekpafdhgkocaaaGreat
open G
namespace G
theorem ZP:∀{L:List bN} {a b:Int},Xz a L b->(∀c∈L,1<=fc c)->L.Pairwise (fun x y=>ea x<=y.to)/\(∀c∈L,a<=c.to)/\a<=b
 |[],a,b,h,_=>⟨.nil,by simp,Int.le_of_eq h⟩
 |c::L,a,b,⟨h1,h2⟩,hl=>by
  obtain⟨k1,k2,k3⟩:=ZP h2 fun x hx=>hl x (aE _ hx)
  have h3:=hl c ax;have h4:ea c=c.to+fc c:=rfl;refine⟨.cons k2 k1,fun x hx=>?_,by omega⟩;rcases aZ.1 hx with rfl|hx
  . omega
  . have:=k2 x hx;omega
theorem ZM:∀{L:List bN} {a b:Int},Xz a L b->∀o,a<=o->o<b->Sa L o
 |[],a,b,h,o,h1,h2=>by have h:a=b:=h;omega
 |c::L,a,b,⟨h1,h2⟩,o,h3,h4=>by
  by_cases h:o<ea c
  . exact⟨c,ax,by omega,h⟩
  . obtain⟨x,hx,k⟩:=ZM h2 o (by omega) h4;exact⟨x,aE _ hx,k⟩
theorem ad4{d:bZ}(hR:M8 d)(hg:∀c∈d.bO,Good d c)(ht:Xz 0 d.bO d.b6):VD d:=by
 refine⟨hR,hg,?_,ZM ht⟩;have hp:=(ZP ht fun c hc=>(hg c hc).qF).1;rw[aX]at hp;rintro⟨i,j,hi,hj,hne,h⟩;rw[bX hi,bX hj]at h;unfold ov at h;rw[au]at h;have:=(hg _ (aA hi)).qF;rcases Nat.lt_or_gt_of_ne hne with k|k
 . have:=hp i j hi hj k;omega
 . have:=hp j i hj hi k;omega
section
variable {old new:List UInt8}{MD:Int}
def fl(new:List UInt8)(l:List bN)(fr p:Nat):List bN:=if fr<p then l++[⟨2,(fr:Int),0,0,(new.take p).drop fr⟩]else l
theorem P9{L:List bN}(ho:old.length<=10000)(hn:new.length<=10000)(hL:L.length<=100000)(hd:∀c∈L,c.data.length<=100000):vl old new L=some ⟨(old.length:Int),(new.length:Int),vn old,vn new,L⟩:=by
 unfold vl;rw[T5 _ (by simp) (by simp;omega),T5 _ (by simp) (by simp;omega)];simp only[aa,List.flatten_cons,List.flatten_nil,aL];rw[Oz _ _ (fun c hc=>by have:=hd c hc;omega) (by omega)];rfl
end
end G
end Go.Proofs.YtekpafdhgkocaaaGreat
namespace Go.Proofs.YtekpafdhgkocaaaGreat
open G
namespace G
def Yf:gg:=⟨ints S8,ints T3⟩
theorem EN:mR=some Yf:=Xy
theorem zf{b:List UInt8}(hb:b.length<=100000000):jq b Yf=some (vn b):=Vz hb
section
variable {d:bZ}{S:List bN}{a0:List UInt8}
def SS(a0:List UInt8)(S:List bN)(k:Nat):List UInt8:=((S.take k).map (B0 a0)).flatten
theorem Us:SS a0 S S.length=file a0 S:=by
 unfold SS file V4;rw[bn]
 induction S with
 |nil=>rfl
 |cons c S ih=>rw[aO,List.flatten_cons,ih,List.flatMap_cons,aY];rfl
theorem QD{k:Nat}(hk:k<S.length):SS a0 S (k+1)=SS a0 S k++B0 a0 S[k]:=by
 unfold SS;rw[aB hk,aY,bm];simp
theorem XX(k:Nat):(SS a0 S k).length<=(file a0 S).length:=by
 rw[<- Us];unfold SS;rw[bn];have:=congrArg (fun l=>(l.map (B0 a0)).flatten.length) (List.take_append_drop k S);simp only[aY,bm,ak]at this;omega
theorem I9(h:Sm d S)(hl:d.cg=(a0.length:Int))(ha:a0.length<=1000000){y:bZ}(hy:y.bO=S):
 Iter (tL a0 y) ((0:Int),W0,([]:List UInt8),(0:Int))=some ((tS W0 (file a0 S)).1,(tS W0 (file a0 S)).2,((file a0 S).length:Int)):=by
 have fl:=wO (a0:=a0) h
 have hn:=h.new
 refine cb S.length (fun k=>((k:Int),(tS W0 (SS a0 S k)).1,(tS W0 (SS a0 S k)).2,((SS a0 S k).length:Int))) _ (fun k hk=>?_) ?_ ?_
 . have hf:=h.fit _ (aA hk)
   have f1:=XX (a0:=a0) (S:=S) k
   have f2:=XX (a0:=a0) (S:=S) (k+1)
   rw[QD hk,ak]at f2
   have hs:=h.afN
   unfold tL
   rw[hy,if_pos (by simp only;omega)]
   simp only[cN hk,aa]
   rw[KU hf (by omega) ha]
   simp only[aa]
   obtain⟨x,hx⟩:=Qg [B0 a0 S[k]] (tS W0 (SS a0 S k)).1 (tS W0 (SS a0 S k)).2 ((SS a0 S k).length:Int) (IW _ _ _ (Nat.le_refl _)).1 (by simp) (by simp;omega) (by omega)
   rw[hx]
   simp only[aa,List.flatten_cons,List.flatten_nil,aL]
   rw[dk hk (by omega),<- TP _ W0 (SS a0 S k) _ (Nat.le_refl _),QD hk,ak]
   simp
 . unfold tL
   rw[hy,if_neg (by simp only;omega),Us]
 . rw[show SS a0 S 0=[] from rfl,Mw (by simp)];rfl
def aej(a0:List UInt8)(d:bZ)(e p:Int):Prop:=
 (e≠0/\Qa d e p)\/(VD d/\((d.cg≠(a0.length:Int)/\e=13/\p=(a0.length:Int))\/
  (d.cg=(a0.length:Int)/\jx (vn a0) d.dv=false/\e=14/\p=0)\/
  (d.cg=(a0.length:Int)/\jx (vn a0) d.dv=true/\∃S,Sm d S/\p=0/\((jx (vn (file a0 S)) d.du=false/\e=15)\/(jx (vn (file a0 S)) d.du=true/\e=0)))))
theorem Vy(ha:a0.length<=1000000)(hc:d.bO.length<=1000)(hn:d.b6<=3000):
 ∃e p,aej a0 d e p/\mw a0 d=some ⟨e,p⟩/\qM a0 d Yf=some (e,p):=by
 obtain⟨e,p,h1,h2,h3⟩:=Si (d:=d) (by omega)
 unfold mw qM
 rw[h2,h3]
 simp only[aa]
 by_cases he:e=0
 . obtain⟨k1,k2⟩:=h1.zero
   have hp:=k2 he
   have hv:=k1.1 he
   rw[if_neg (by simp[he,hp]),if_neg (show ¬ (e≠0) from fun h=>h he)]
   by_cases hl:d.cg=(a0.length:Int)
   . rw[if_neg (show ¬ (d.cg≠(a0.length:Int)) from fun h=>h hl),if_neg (show ¬ (d.cg≠(a0.length:Int)) from fun h=>h hl),T5 _ (by simp) (by simp;omega),zf (by omega)]
     simp only[aa,List.flatten_cons,List.flatten_nil,aL]
     cases hh:jx (vn a0) d.dv
     . rw[if_pos rfl,if_pos rfl]
       exact⟨_,_,.inr ⟨hv,.inr (.inl ⟨hl,hh,rfl,rfl⟩)⟩,rfl,rfl⟩
     . rw[if_neg (by simp),if_neg (by simp)]
       obtain⟨S,hS⟩:=T7 hv hc hn
       have fl:=wO (a0:=a0) hS
       rw[Ou,hS.sort,Ji hS hl ha]
       simp only[aa]
       rw[I9 hS hl ha rfl,zf (by omega)]
       simp only[aa]
       rw[Ss _ _ _ (IW _ _ _ (Nat.le_refl _)).1]
       simp only[aa]
       rw[show HS (tS W0 (file a0 S)).1 (tS W0 (file a0 S)).2 ((file a0 S).length:Int)=vn (file a0 S) from rfl]
       cases hk:jx (vn (file a0 S)) d.du
       . rw[if_pos rfl,if_pos rfl]
         exact⟨_,_,.inr ⟨hv,.inr (.inr ⟨hl,hh,S,hS,rfl,.inl ⟨hk,rfl⟩⟩)⟩,rfl,rfl⟩
       . rw[if_neg (by simp),if_neg (by simp)]
         exact⟨_,_,.inr ⟨hv,.inr (.inr ⟨hl,hh,S,hS,rfl,.inr ⟨hk,rfl⟩⟩)⟩,rfl,rfl⟩
   . rw[if_pos hl,if_pos hl]
     exact⟨_,_,.inr ⟨hv,.inl ⟨hl,rfl,rfl⟩⟩,rfl,rfl⟩
 . rw[if_pos (by simp[he]),if_pos (show e≠0 from he)]
   exact⟨_,_,.inl ⟨he,h1⟩,rfl,rfl⟩
theorem Hr(h:Sm d S)(hl:d.cg=(a0.length:Int))(ha:a0.length<=1000000)(h1:jx (vn a0) d.dv=true)(h2:jx (vn (file a0 S)) d.du=true):mw a0 d=some ⟨0,0⟩:=by
 have fl:=wO (a0:=a0) h;have hn:=h.new;unfold mw;rw[(I3 (by have:=h.len;omega) h.vd).1];simp only[aa];rw[if_neg (by simp),if_neg (by simpa using hl),T5 _ (by simp) (by simp;omega)];simp only[aa,List.flatten_cons,List.flatten_nil,aL];rw[if_neg (by simp[h1]),Ou,h.sort];simp only[aa];rw[I9 h hl ha rfl];simp only[aa];rw[Ss _ _ _ (IW _ _ _ (Nat.le_refl _)).1];simp only[aa];rw[show HS (tS W0 (file a0 S)).1 (tS W0 (file a0 S)).2 ((file a0 S).length:Int)=vn (file a0 S) from rfl,if_neg (by simp[h2])]
end
end G
end Go.Proofs.YtekpafdhgkocaaaGreat
namespace Go.Proofs.YtekpafdhgkocaaaGreat
open G
namespace G
section
variable {a0:List UInt8}{d:bZ}{S:List bN}
theorem EM(h:Sm d S)(hn:d.bO.length<=20)(hl:d.cg=(a0.length:Int))(ha:a0.length<=1000000)(hv:mw a0 d=some ⟨0,0⟩):
 ∃L,L.Perm (pg (k9 a0 (zn (ev d.bO)) d.bO))/\(L.Pairwise fun a b=>a.to<=b.to)/\np a0 d.bO=some (VR d.bO++L)/\
  jm a0 d=some (⟨d.cg,d.b6,d.dv,d.du,VR d.bO++L⟩,⟨0,0⟩):=by
 obtain⟨L,h1,h2,h3,h4⟩:=Sg h hn hl ha
 obtain⟨S',hS',_⟩:=OW h h1
 refine⟨L,h1,h2,h4,?_⟩
 unfold jm
 rw[hv]
 simp only[aa]
 rw[if_neg (by simp),h3]
 simp only[aa]
 rw[Oz d _ hS'.data (by have:=hS'.len;exact Nat.le_trans this (by omega))]
 rfl
end
def ED:List UInt8:=[97,98,99,100,101,102,103,104]
def LP:List UInt8:=[102,103,104,120,121,97,98,99]
def xb:List bN:=[⟨1,0,5,3,[]⟩,⟨1,5,0,3,[]⟩,⟨2,3,0,0,[120,121]⟩]
def TJ:List bN:=[⟨1,0,5,3,[]⟩,⟨2,3,0,0,[120,121]⟩,⟨1,5,0,3,[]⟩]
noncomputable def d15:bZ:=⟨8,8,vn ED,vn LP,xb⟩
theorem abO:VD ⟨8,8,vn ED,vn LP,TJ⟩:=by
 refine ad4 (by unfold M8;simp) (fun c hc=>?_) ⟨rfl,rfl,rfl,rfl⟩;have hc:c=⟨1,0,5,3,[]⟩\/c=⟨2,3,0,0,[120,121]⟩\/c=⟨1,5,0,3,[]⟩:=by simpa[TJ]using hc
 rcases hc with rfl|rfl|rfl
 . exact⟨by decide,by decide,by show(3:Int)<=8;decide,by decide,fun _=>⟨by decide,by decide,by show(8:Int)<=8;decide,by decide,rfl⟩,fun h=>absurd rfl h⟩
 . exact⟨by decide,by decide,by show(5:Int)<=8;decide,by decide,(fun h=>by cases h),fun _=>⟨rfl,rfl,rfl⟩⟩
 . exact⟨by decide,by decide,by show(8:Int)<=8;decide,by decide,fun _=>⟨by decide,by decide,by show(3:Int)<=8;decide,by decide,rfl⟩,fun h=>absurd rfl h⟩
theorem XP:Sm d15 TJ:=by
 have h:Sm ⟨8,8,vn ED,vn LP,TJ⟩ TJ:=⟨abO,by decide,by show(8:Int)<=3000;decide,List.Perm.refl _,⟨rfl,rfl,rfl,rfl⟩⟩;exact h.other (L:=xb) (by unfold xb TJ;exact(List.Perm.swap _ _ _).cons _)
theorem ac5:file ED TJ=LP:=by kernel_rfl
theorem lt3{v:Nat}(h:v<3):v=0\/v=1\/v=2:=by omega
theorem aco:vB (Rl xb) 3 []=[0,1]:=by
 have h01:wo (Rl xb) [] 0 1=true:=by decide
 have h10:wo (Rl xb) [] 1 0=true:=by decide
 refine EC ((List.perm_ext_iff_of_nodup (rl _ _) (by decide)).2 fun v=>?_) (AD _ _) (by decide);refine Iff.trans A8 ?_;constructor
 . rintro⟨hv,ht⟩;rcases lt3 hv with rfl|rfl|rfl
   . decide
   . decide
   . obtain⟨k,hk⟩:=ht.fst;have hb:=(Vu _ _ (Dj hk).1).2;rcases lt3 hb with rfl|rfl|rfl<;>exact absurd hk (by decide)
 . intro hv;have hv:v=0\/v=1:=by simpa using hv
   rcases hv with rfl|rfl
   . exact⟨by decide,.cons h01 (.one h10)⟩
   . exact⟨by decide,.cons h10 (.one h01)⟩
theorem acT:vB (Rl xb) 3 [0]=[]:=by
 refine aP fun hc=>?_
 cases hl:vB (Rl xb) 3 [0]with
 |nil=>exact hc hl
 |cons v t=>
  obtain⟨h1,h2⟩:=A8.1 (by rw[hl];exact ax .. :v∈vB (Rl xb) 3 [0])
  obtain⟨k,hk⟩:=h2.fst
  have hb:=(Vu _ _ (Dj hk).1).2
  rcases lt3 h1 with rfl|rfl|rfl<;>rcases lt3 hb with rfl|rfl|rfl<;>exact absurd hk (by decide)
theorem aeH:ev xb=[0]:=by
 show Lc (Rl xb) 3 (wt (lens xb)) 3 []=[0];unfold Lc;rw[if_neg (by rw[aco];decide),aco];have:ME (wt (lens xb)) [0,1]=0:=by decide
 rw[this];show Lc (Rl xb) 3 (wt (lens xb)) 2 [0]=[0];unfold Lc;rw[if_pos acT]
theorem afE:od xb=[1]:=by
 unfold od;rw[aeH];decide
def w15:List bN:=[⟨2,0,0,0,[102,103,104]⟩,⟨2,3,0,0,[120,121]⟩]
theorem adk:pg (k9 ED (zn [0]) xb)=w15:=by kernel_rfl
theorem afd:mw ED d15=some ⟨0,0⟩:=Hr XP rfl (by decide) (hash_self _) (by rw[ac5];exact hash_self _)
theorem T8:jR=some true:=by
 obtain⟨L,h1,h2,_,h3⟩:=EM XP (by decide) rfl (by decide) afd;have hL:L=w15:=by
  have h1:L.Perm (pg (k9 ED (zn (ev xb)) xb)):=h1;rw[aeH,adk]at h1;refine wH _ _ h1 h2 (by decide) fun a ha b hb e=>?_
  have ha:a=⟨2,0,0,0,[102,103,104]⟩\/a=⟨2,3,0,0,[120,121]⟩:=by simpa[w15]using h1.mem_iff.1 ha
  have hb:b=⟨2,0,0,0,[102,103,104]⟩\/b=⟨2,3,0,0,[120,121]⟩:=by simpa[w15]using h1.mem_iff.1 hb
  rcases ha with rfl|rfl<;>rcases hb with rfl|rfl<;>first|rfl|(exact absurd e (by decide))
 have hc:VR d15.bO=[⟨1,5,0,3,[]⟩]:=by
  show(od xb).map (cat xb)=_;rw[afE];rfl
 unfold jR;rw[show[(u8 97),(u8 98),(u8 99),(u8 100),(u8 101),(u8 102),(u8 103),(u8 104)]=ED from by kernel_rfl,show[(u8 102),(u8 103),(u8 104),(u8 120),(u8 121),(u8 97),(u8 98),(u8 99)]=LP from by kernel_rfl,
  show[(⟨(1:Int),(0:Int),(5:Int),(3:Int),([]:List UInt8)⟩:bN),(⟨(1:Int),(5:Int),(0:Int),(3:Int),([]:List UInt8)⟩:bN),(⟨(2:Int),(3:Int),(0:Int),(0:Int),[(u8 120),(u8 121)]⟩:bN)]=xb from by kernel_rfl,
  show[(u8 102),(u8 103),(u8 104)]=([102,103,104]:List UInt8) from by kernel_rfl,P9 (by decide) (by decide) (by decide) (by decide)]
 simp only[aa];rw[show(⟨(ED.length:Int),(LP.length:Int),vn ED,vn LP,xb⟩:bZ)=d15 from rfl,h3,hL,hc];have i1:idx xb 1=some ⟨1,5,0,3,[]⟩:=rfl;have i2:idx xb 2=some ⟨2,3,0,0,[120,121]⟩:=rfl;rw[i1,i2];simp only[aa];rw[if_pos (by simp),Xc _ _ (by decide)];simp only[aa];rw[aH (by rfl)]
theorem Ma{a b:List UInt8}(ha:a.length<=100000000)(hb:b.length<=100000000)(l:List bN):oE a b l=some ⟨(a.length:Int),(b.length:Int),vn a,vn b,l⟩:=by
 unfold oE;rw[EN];simp only[aa,zf ha,zf hb]
theorem Vx{d:bZ}(hn:d.bO.length<=17592186044416)(h:VD d):re d=some true:=by
 unfold re;rw[(I3 hn h).1];rfl
end G
theorem G.vV(a0:List UInt8)(a1:bZ)(_h0:Len a0)(h1:bZ.Ok a1):nH a0 a1=some true:=by
 have n1:a1.bO.length<=9223372036854775807:=h1.2.2.1;unfold nH;rw[Oo a1 n1,T8];by_cases hl:(a0.length:Int)>300
 . rw[if_pos hl];rfl
 rw[if_neg hl];simp only[aa];cases hf:SU a1
 . rfl
 rw[if_neg (by simp)];by_cases hc:(a1.bO.length:Int)>20
 . rw[if_pos hc];rfl
 rw[if_neg hc];simp only[aa];by_cases hn:a1.b6>1000
 . rw[if_pos (aH hn)]
 rw[if_neg (by simpa using hn)];obtain⟨e,p,hv,hp,hr⟩:=Vy (a0:=a0) (d:=a1) (by omega) (by omega) (by omega);have hsame:∀x:bZ,x.bO.length<=9223372036854775807->qq (⟨x.cg,x.b6,x.dv,x.du,x.bO⟩:bZ) (⟨x.cg,x.b6,x.dv,x.du,x.bO⟩:bZ)=some true:=fun x hx=>by
  rw[Xw _ _ hx,abN]
 by_cases he:e=0
 . obtain⟨S,hS,hp0,hlen⟩:∃S,G.Sm a1 S/\p=0/\a1.cg=(a0.length:Int):=by
    rcases hv with⟨h,_⟩|⟨_,⟨_,h,_⟩|⟨_,_,h,_⟩|⟨h2,_,S,hS,hp0,h⟩⟩
    . exact absurd he h
    . omega
    . omega
    . exact⟨S,hS,hp0,h2⟩
   subst he;subst hp0;obtain⟨L,hL,_,hA,hC⟩:=EM hS (by omega) hlen (by omega) hp;obtain⟨S',hS',_⟩:=OW hS hL;rw[hC];simp only[aa];rw[EN];simp only[aa];unfold p8;rw[hr];simp only[aa];rw[if_neg (by simp),hA];simp only[aa];unfold tG;simp only[aa];rw[if_pos trivial,hsame ⟨a1.cg,a1.b6,a1.dv,a1.du,_⟩ (Nat.le_trans hS'.len (by omega))];rfl
 . have hC:jm a0 a1=some ((⟨0,0,(fun _=>0),(fun _=>0),[]⟩:bZ),⟨e,p⟩):=by
    unfold jm;rw[hp];simp only[aa];rw[if_pos (by rw[bh];exact fun h=>he h.1)]
   rw[hC];simp only[aa];rw[EN];simp only[aa];unfold p8;rw[hr];simp only[aa];rw[if_pos he];simp only[aa];rw[if_pos trivial,hsame ⟨0,0,(fun _=>0),(fun _=>0),[]⟩ (by simp)];simp
theorem G.xm(a0:List UInt8)(a1:bZ)(_h0:Len a0)(h1:bZ.Ok a1):oX a0 a1=some true:=by
 have n1:a1.bO.length<=9223372036854775807:=h1.2.2.1;unfold oX;obtain⟨b,e1,s1⟩:=Sr a1 n1;obtain⟨c,e2,s2⟩:=Xk a0 a1 n1;rw[e1,e2,T8];by_cases hl:(a0.length:Int)>300
 . rw[if_pos hl];rfl
 rw[if_neg hl];cases b
 . rfl
 cases c
 . rfl
 obtain⟨hn,_⟩:=s1 rfl;obtain⟨hol,S,hS⟩:=s2 rfl;have hnew:=hS.new;have hfl:=wO (a0:=a0) hS;simp only[aa];rw[if_neg (by decide),Ji hS hol (by omega)];simp only[aa];rw[Ma (by omega) (by omega)];simp only[aa];rw[if_neg (show ¬ ((!true)=true)by decide)];have hS2:G.Sm ⟨(a0.length:Int),((G.file a0 S).length:Int),vn a0,vn (G.file a0 S),a1.bO⟩ S:=by
  rw[hfl,<- hol];exact⟨⟨hS.vd.UZ,fun c hc=>(fun g:Good a1 c=>⟨g.IX,g.qF,g.fits,g.max,g.copy,g.lit⟩) (hS.vd.tR c hc),hS.vd.apart,hS.vd.full⟩,hS.len,hS.new,hS.perm,hS.til⟩
 obtain⟨L,hL,_,_,hC⟩:=EM hS2 hn rfl (by omega) (Hr hS2 rfl (by omega) (G.hash_self _) (G.hash_self _));obtain⟨S',hS',hfile⟩:=OW hS2 hL;rw[hC];simp only[aa];rw[if_pos trivial,if_pos (by simp)];have hl2:(VR a1.bO++L).length<=1000:=hS'.len;rw[Vx (Nat.le_trans hS'.len (by omega)) hS'.vd];simp only[aa];rw[if_pos trivial,Hr hS' rfl (by omega) (G.hash_self _) (by rw[hfile];exact G.hash_self _)];simp only[aa];rw[if_pos (by simp),Xd hS' rfl (by omega),hfile];simp
end Go.Proofs.YtekpafdhgkocaaaGreat
