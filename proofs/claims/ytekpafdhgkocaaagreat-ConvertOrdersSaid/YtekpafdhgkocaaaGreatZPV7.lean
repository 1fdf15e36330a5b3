/- Part of the proof. -/
import Derived.Test.YtekpafdhgkocaaaGreatZPV1
import Derived.WalkKit
import Derived.Deep.MidRow
import Derived.Deep.QuietTactic
import Derived.BigQuiet
import Derived.Deep.RegionWith
import Derived.Lib.Hide
import Derived.WalkSpells
import Derived.Lib.SlBytesConst
import Derived.Laws.BytesArg
import Derived.Deep.AppendSrc
import Derived.RangeFuncRecord
import Derived.OrdersIn
import Derived.TacticsIn
namespace Go.Proofs.YtekpafdhgkocaaaGreat
section
open IntKind(i64)
open G
namespace G
section
variable {a0:List UInt8}{a2:List Int}{l:List bO}{N M:Int}
theorem NJ(hf:∀c∈l,Fit N M c)(hN:N<=1000000)(hM:M<=(a0.length:Int))(ha:a0.length<=1000000)(hln:l.length<=1000)(hn:a2.length<=1000000)(h1 h2:Nat->UInt8):
 tG a0 ⟨(a0.length:Int),0,h1,h2,l⟩ a2=some ((a0.length:Int),0,h1,h2,true,jW a0 a2 l):=by
 have hd:∀c∈l,c.data.length<=140737488355328:=fun c hc=>by have:=(hf c hc).data hN;omega
 unfold tG
 rw[if_neg (by simp),WB _ l hd (by omega)]
 simp only[ae]
 refine cu (f:=qk a0 ⟨(a0.length:Int),0,h1,h2,l⟩ a2 ((a0.length:Int),0,h1,h2,l)) l.length (fun k=>((k:Int),0,0,(fun _=>0),(fun _=>0),(jW a0 a2 l).take k++l.drop k,[])) _ (fun k hk=>?_) ?_ (by simp)
 . unfold qk
   have hfk:=hf _ (az hk)
   have hb:=Kq (a0:=a0) hfk.nice
   have f0:=hfk.JY;have f1:=hfk.fits
   rw[if_pos (by simp only;omega)]
   simp only[cC hk,ae,G1]
   have hlen:k<((jW a0 a2 l).take k++l.drop k).length:=by rw[ak,aJ,bg,jJ];omega
   by_cases hkd:l[k].kind=1
   . simp only[if_pos hkd,if_true,rN a2 _ (Nat.le_trans hn (by omega)),ae]
     by_cases hm:(k:Int)∈a2
     . rw[aG hm,if_pos rfl,QU hfk hkd hM ha]
       simp only[ae]
       rw[Ro _ _ (by simp;unfold ed at f1;omega) (by simp)]
       simp only[ae,df hk (by omega)]
       rw[cC hlen]
       simp only[ae,aP]
       rw[<- Xq l hk]
       have:oi a0 a2 k l[k]=⟨2,l[k].to,0,0,[BZ a0 l[k]].flatten⟩:=by unfold oi;rw[if_pos ⟨hkd,hm⟩];simp[Vk]
       rw[this]
     . rw[decide_eq_false hm,if_neg (by simp),df hk (by omega)]
       have:oi a0 a2 k l[k]=l[k]:=by unfold oi;rw[if_neg (fun h=>hm h.2)]
       rw[Dq l hk,this,bq hk]
       simp
   . simp only[if_neg hkd,aM,if_false,ae,df hk (by omega)]
     have:oi a0 a2 k l[k]=l[k]:=by unfold oi;rw[if_neg (fun h=>hkd h.1)]
     rw[Dq l hk,this,bq hk]
     simp
 . unfold qk
   rw[if_neg (by simp)]
   simp only[List.drop_length,aK]
   rw[bF (by rw[jJ];omega)]
theorem Jn(hf:∀c∈l,Fit N M c)(hN:N<=1000000)(hM:M<=(a0.length:Int))(ha:a0.length<=1000000)(hln:l.length<=1000)(hn:a2.length<=1000000)(o n:Int)(h1 h2:Nat->UInt8):
 oC a0 ⟨o,n,h1,h2,l⟩ a2=some ⟨o,n,h1,h2,jW a0 a2 l⟩:=by
 unfold oC
 rw[cu (f:=mj a0 ⟨o,n,h1,h2,l⟩ a2) l.length (fun k=>((jW a0 a2 l).take k,(k:Int),0,0,(fun _=>0),(fun _=>0),[])) (jW a0 a2 l,0,0,(fun _=>0),(fun _=>0),[]) (fun k hk=>?s) ?f (s:=([],0,0,0,(fun _=>0),(fun _=>0),[])) rfl]
 . rfl
 case s=>
  unfold mj
  have hfk:=hf _ (az hk)
  have hb:=Kq (a0:=a0) hfk.nice
  have f0:=hfk.JY;have f1:=hfk.fits
  rw[if_pos (by simp only;omega)]
  simp only[cC hk,ae]
  have hv:(if l[k].kind=1 then(sV (k:Int) a2).bind fun y5=>some y5 else some false)=some (decide (l[k].kind=1/\(k:Int)∈a2)):=by
   by_cases hkd:l[k].kind=1
   . rw[if_pos hkd,Yd a2 _ (Nat.le_trans hn (by omega))];simp only[ae];congr 1;rw[bp];simp[hkd]
   . rw[if_neg hkd];congr 1;symm;rw[bf];exact fun h=>hkd h.1
  rw[hv]
  simp only[ae]
  have hw:(if decide (l[k].kind=1/\(k:Int)∈a2)=true then(yG a0 l[k].cp (i64.wrap (l[k].cp+l[k].len))).bind fun y7=>(app 1 ([]:List UInt8) y7).bind fun y8=>some (⟨2,l[k].to,0,0,y8⟩:bO)else some l[k])=some (oi a0 a2 k l[k]):=by
   unfold oi;by_cases hp:l[k].kind=1/\(k:Int)∈a2
   . rw[if_pos (aG hp),if_pos hp,QU hfk hp.1 hM ha];simp only[ae];rw[dA (by simp;unfold ed at f1;omega)];rfl
   . rw[if_neg (by simpa using hp),if_neg hp]
  rw[hw]
  simp only[ae,df hk (by omega)]
  rw[dA (by simp;omega),Dq l hk]
  rfl
 case f=>
  unfold mj
  rw[if_neg (by simp)]
  simp only
  rw[bF (by rw[jJ];omega)]
end
def nU(l:List bO):List bO:=l.filter fun c=>decide (c.kind=2)
theorem Rj(l:List bO)(hn:l.length<=1000):∃y,cx l=some y/\(match y with| .inl _=>l| .inr y=>y)=nU l:=by
 have hp:∀c:bO,nI c=some (!decide (c.kind=2)):=fun c=>by
  unfold nI;congr 1
 have hI:∃r,cF l=some r/\((r= -1/\∀c∈l,c.kind=2)\/∃k:Nat,r=(k:Int)/\k<l.length/\cat l k ∉ nU l/\∀c∈l.take k,c.kind=2):=by
  have hK:=jj (f:=b8 l) l (fun c=>!decide (c.kind=2)) (fun k=>(k:Int)) (fun k=>(k:Int)) (-1)
   (fun k h hb=>by unfold b8;rw[if_pos (by omega),cC h];simp only[ae,hp];rw[hb,if_neg (by simp),df h (by omega)])
   (fun k h hb=>by unfold b8;rw[if_pos (by omega),cC h];simp only[ae,hp];rw[hb,if_pos rfl])
   (by unfold b8;rw[if_neg (by omega)]) (s:=0) rfl
  unfold cF;rcases hK with⟨ha,he⟩|⟨k,h,hb,hj,he⟩
  . exact⟨_,he,.inl ⟨rfl,fun c hc=>by simpa using ha c hc⟩⟩
  . refine⟨_,he,.inr ⟨k,rfl,h,fun hm=>?_,fun c hc=>?_⟩⟩
    . have:=aF (aR.1 hm).2;rw[bW h]at this;simp[this]at hb
    . obtain⟨i,hi,rfl⟩:=bC.1 hc;rw[aJ]at hi;rw[List.getElem_take];simpa using hj i (by omega)
 obtain⟨r,hr,hor⟩:=hI;unfold cx;rw[hr];simp only[ae];rcases hor with⟨rfl,ha⟩|⟨k,rfl,hk,hnk,ha⟩
 . rw[if_pos rfl];refine⟨_,rfl,?_⟩;unfold nU;exact(List.filter_eq_self.2 fun c hc=>aG (ha c hc)).symm
 . rw[if_neg (by omega),df hk (by omega)];have h0:nU (l.take k)=l.take k:=List.filter_eq_self.2 fun c hc=>aG (ha c hc)
   have h1:∀j (hj:j<l.length),nU (l.take (j+1))=nU (l.take j)++if l[j].kind=2 then[l[j]]else[]:=fun j hj=>by
    unfold nU;rw[aB hj,List.filter_append];congr 1;by_cases h:l[j].kind=2<;>simp[h]
   have hkk:¬ l[k].kind=2:=fun h=>hnk (aR.2 ⟨by rw[bW hk];exact az hk,by rw[bW hk];exact aG h⟩)
   obtain⟨r,hr2,i,T,rfl,q1,q2,q3⟩:=cn (f:=c7)
    (fun m s=>∃(i j:Nat) (T:List bO),s=((i:Int),(j:Int),T)/\T.length=l.length/\i<=j/\j<=l.length/\T.take i=nU (l.take j)/\T.drop j=l.drop j/\m=l.length-j)
    (fun r=>∃(i:Nat) (T:List bO),r=((i:Int),T)/\T.length=l.length/\i<=l.length/\T.take i=nU l) (fun m s hI=>by
     obtain⟨i,j,T,rfl,i1,i2,i3,i4,i5,rfl⟩:=hI;unfold c7;by_cases hj:j<l.length
     . have hjT:j<T.length:=by omega
       have e:T[j]=l[j]:=by
        have h1:=bq hjT;have h2:=bq hj;rw[i5,h2]at h1;exact(List.cons.inj h1).1.symm
       have e2:T.drop (j+1)=l.drop (j+1):=by rw[<- List.drop_drop,<- List.drop_drop,i5]
       rw[if_pos (by simp only;omega)];simp only[cC hjT,e,ae,hp,df hj (by omega)];by_cases h2:l[j].kind=2
       . rw[if_pos (by simp[h2]),cC (show i<T.length by omega)];simp only[ae,aP];rw[df (show i<l.length by omega) (by omega)];refine .inl ⟨_,_,rfl,by omega,i+1,j+1,T.set i l[j],rfl,by simpa using i1,by omega,hj,?_,?_,rfl⟩
         . rw[h1 j hj,if_pos h2,<- i4,aB (by simp;omega),List.getElem_set_self,List.take_set_of_le (Nat.le_refl _)]
         . rw[List.drop_set_of_lt (by omega),e2]
       . rw[if_neg (by simp[h2])];exact .inl ⟨_,_,rfl,by omega,i,j+1,T,rfl,i1,by omega,hj,by rw[h1 j hj,if_neg h2,aK];exact i4,e2,rfl⟩
     . rw[if_neg (by simp only;omega)];have:j=l.length:=by omega
       subst this;rw[bh]at i4;exact .inr ⟨_,rfl,i,T,rfl,i1,i2,i4⟩) (l.length-(k+1)) ((k:Int),((k+1:Nat):Int),l) ⟨k,k+1,l,rfl,rfl,by omega,hk,by rw[h1 k hk,if_neg hkk,aK,h0],rfl,rfl⟩
   rw[hr2];simp only[ae];rw[mR (by omega)];simp only[ae];rw[AM (by rw[GU (by omega)];omega)];refine⟨_,rfl,?_⟩;simp only[aP];unfold Er;rw[List.take_append_of_le_length (by rw[aJ];omega),List.take_take,Nat.min_self];exact q3
section
variable {a0:List UInt8}{d:bZ}{S:List bO}
noncomputable def wV(l:List bO):List bO:=(od l).map (cat l)
theorem vw(h:Sm d S)(hn:d.bP.length<=20)(hl:d.cZ=(a0.length:Int))(ha:a0.length<=1000000):
 ∃L,L.Perm (nU (jW a0 (zn (ev d.bP)) d.bP))/\(L.Pairwise fun a b=>a.to<=b.to)/\ft a0 d.bP=some (wV d.bP++L)/\hU a0 d.bP=some (wV d.bP++L):=by
 obtain⟨g,hg⟩:=vY (Gp h hn)
 have hfit:∀c∈d.bP,Fit d.cd d.cZ c:=fun c hc=>(h.vd.sD c hc).fit
 have hN:=h.Yh.1
 have hdat:∀c∈d.bP,c.data.length<=140737488355328:=h.data
 have hol:=XL (l:=d.bP)
 have hel:=KQ (l:=d.bP)
 have hodm:∀i∈od d.bP,i<d.bP.length:=fun i hi=>(HX.1 hi).1
 obtain⟨y,hy,hy2⟩:=Rj (jW a0 (zn (ev d.bP)) d.bP) (by rw[jJ];omega)
 have hml:(nU (jW a0 (zn (ev d.bP)) d.bP)).length<=20:=Nat.le_trans (bt _ _) (by rw[jJ];exact hn)
 obtain⟨L,hs,hp,hsr⟩:=QC.qO (nU (jW a0 (zn (ev d.bP)) d.bP)) (by omega)
 have hsr:L.Pairwise fun a b=>a.to<=b.to:=hsr
 have hpl:=hp.length_eq
 refine⟨L,hp,hsr,?_,?_⟩
 . unfold ft
   rw[hg]
   simp only[ae]
   have hI:Iter (mS d.bP (d.bP,zn (ev d.bP),zn (od d.bP),g)) ((0:Int),([]:List bO))=some (wV d.bP):=by
    refine cu (f:=mS d.bP (d.bP,zn (ev d.bP),zn (od d.bP),g)) (od d.bP).length (fun k=>((k:Int),((od d.bP).take k).map (cat d.bP))) _ (fun k hk=>?_) ?_ (by simp)
    . unfold mS;have hlt:=hodm _ (az hk);rw[if_pos (by rw[cN];simp only;omega)];simp only[Aa hk,ae,cC hlt,J1 _ (hdat _ (az hlt)),df hk (by omega)];rw[dA (by rw[aI,aJ,bn];omega),aB hk,aX,List.map_singleton,bW hlt];rfl
    . unfold mS;rw[if_neg (by rw[cN];simp only;omega),bh];rfl
   rw[hI]
   simp only[ae]
   rw[NJ hfit hN (by omega) ha (by omega) (by rw[cN];omega)]
   simp only[ae]
   rw[hy]
   have hv:∀{γ:Type} (f:List bO->Option γ),((some y).bind fun y10=>match y10 with| .inl _=>some (jW a0 (zn (ev d.bP)) d.bP)| .inr y12=>some y12).bind f=f (nU (jW a0 (zn (ev d.bP)) d.bP)):=fun f=>by
    rw[<- hy2];cases y<;>rfl
   refine(hv _).trans ?_
   rw[hs]
   simp only[ae]
   rw[dA (by unfold wV;rw[aI];omega)];rfl
 . unfold hU
   rw[Ek (Gp h hn)]
   simp only[ae]
   have hI:Iter (jF d.bP (zn (od d.bP))) (([]:List bO),(0:Int))=some (wV d.bP):=by
    refine cu (f:=jF d.bP (zn (od d.bP))) (od d.bP).length (fun k=>(((od d.bP).take k).map (cat d.bP),(k:Int))) _ (fun k hk=>?_) ?_ (by simp)
    . unfold jF;have hlt:=hodm _ (az hk);rw[if_pos (by rw[cN];simp only;omega)];simp only[Aa hk,ae,cC hlt,df hk (by omega)];rw[dA (by rw[aI,aJ,bn];omega),aB hk,aX,List.map_singleton,bW hlt];rfl
    . unfold jF;rw[if_neg (by rw[cN];simp only;omega),bh];rfl
   rw[hI]
   simp only[ae]
   rw[wi (Gp h hn)]
   simp only[ae]
   rw[Jn hfit hN (by omega) ha (by omega) (by rw[cN];omega)]
   simp only[ae]
   have hI2:∀m:List bO,m.length<=1000->Iter (jG ⟨0,0,fun _=>0,fun _=>0,m⟩) (([]:List bO),(0:Int))=some (nU m):=fun m hm=>by
    refine cu (f:=jG ⟨0,0,fun _=>0,fun _=>0,m⟩) m.length (fun k=>(nU (m.take k),(k:Int))) _ (fun k hk=>?_) ?_ (by simp[nU])
    . unfold jG;have hfl:(nU (m.take k)).length<=k:=Nat.le_trans (bt _ _) (by rw[aJ];omega);rw[if_pos (by simp only;omega)];simp only[cC hk,ae,df hk (by omega)];have e:nU (m.take (k+1))=nU (m.take k)++if m[k].kind=2 then[m[k]]else[]:=by
       unfold nU;rw[aB hk,List.filter_append];congr 1;by_cases h:m[k].kind=2<;>simp[h]
      rw[e];by_cases h2:m[k].kind=2
      . rw[if_pos h2,dA (by rw[bn];omega),if_pos h2];rfl
      . rw[if_neg h2,if_neg h2,aK]
    . unfold jG;rw[if_neg (by simp),bh]
   rw[hI2 _ (by rw[jJ];omega)]
   simp only[ae]
   obtain⟨L2,hs2,hp2,hsr2⟩:=EW (nU (jW a0 (zn (ev d.bP)) d.bP)) (by omega)
   rw[hs2]
   simp only[ae]
   have hinj:∀a∈jW a0 (zn (ev d.bP)) d.bP,∀b∈jW a0 (zn (ev d.bP)) d.bP,a.to=b.to->a=b:=by
    have hv:=TS (a0:=a0) (a2:=zn (ev d.bP)) h;exact SV hv
   have:L2=L:=tj _ _ (hp2.trans hp.symm) hsr2 hsr fun a ha b hb e=>hinj a (aR.1 (hp2.mem_iff.1 ha)).1 b (aR.1 (hp2.mem_iff.1 hb)).1 e
   rw[this,dA (by unfold wV;rw[aI];omega)];rfl
end
end G
end
section
open G
namespace G
section
variable {a0:List UInt8}{d:bZ}{S:List bO}{L:List bO}
theorem K6(l:List bO)(a2:List Int):jW a0 a2 l=(List.range l.length).map fun i=>oi a0 a2 i (cat l i):=by
 apply bN (by rw[jJ];simp);intro i h1 h2;rw[jJ]at h1;rw[yy l h1 (by rw[jJ];exact h1),List.getElem_map,List.getElem_range,bW h1]
theorem VH(l:List bO){i:Nat}:((oi a0 (zn (ev l)) i (cat l i)).kind=2↔(cat l i).kind=2\/(cat l i).kind=1/\i∈ev l):=by
 unfold oi;by_cases h:(cat l i).kind=1/\(i:Int)∈zn (ev l)
 . rw[if_pos h];rw[rK]at h;exact⟨fun _=>.inr h,fun _=>rfl⟩
 . rw[if_neg h];rw[rK]at h;exact⟨fun hk=>.inl hk,fun hk=>hk.elim id fun hk=>absurd hk h⟩
theorem Ht(l:List bO)(hL:L.Perm (nU (jW a0 (zn (ev l)) l))):(wV l++L).Perm (jW a0 (zn (ev l)) l):=by
 have h1:(wV l).Perm ((jW a0 (zn (ev l)) l).filter fun c=>!decide (c.kind=2)):=by
  rw[K6,List.filter_map];have e:(List.range l.length).filter ((fun c:bO=>!decide (c.kind=2)) ∘ fun i=>oi a0 (zn (ev l)) i (cat l i))=K0 l.length (lits l++ev l):=by
   unfold K0;refine bJ fun i hi=>?_
   have hi:=List.mem_range.1 hi;simp only[Function.comp];rw[Bool.eq_iff_iff,Bool.not_eq_true',bf,ax,VH,aL];have hl:i∈lits l↔(cat l i).kind=2:=by unfold lits;rw[ia,ax];exact⟨fun h=>h.2,fun h=>⟨hi,h⟩⟩
   rw[hl];have he:i∈ev l->(cat l i).kind=1:=fun h=>(tA.2.2.1 i h).2
   constructor
   . rintro h (h2|h2)
     . exact h (.inl h2)
     . exact h (.inr ⟨he h2,h2⟩)
   . rintro h (h2|⟨_,h2⟩)
     . exact h (.inl h2)
     . exact h (.inr h2)
  rw[e];have h2:(K0 l.length (lits l++ev l)).map (fun i=>oi a0 (zn (ev l)) i (cat l i))=(K0 l.length (lits l++ev l)).map (cat l):=List.map_congr_left fun i hi=>by
   have:=aF (ia.1 hi).2;unfold oi;rw[if_neg fun h=>this (bL _ (rK.1 h.2))]
  rw[h2];exact JR.map _
 have h2:L.Perm ((jW a0 (zn (ev l)) l).filter fun c=>!!decide (c.kind=2)):=by simpa[nU]using hL
 exact(h1.append h2).trans (List.filter_append_perm _ _)
theorem FM(h:Sm d S)(hL:L.Perm (nU (jW a0 (zn (ev d.bP)) d.bP))):∃S',Sm ⟨d.cZ,d.cd,d.fU,d.fT,wV d.bP++L⟩ S'/\file a0 S'=file a0 S:=by
 obtain⟨S',h1,h2⟩:=ZZ (a0:=a0) (a2:=zn (ev d.bP)) h;exact⟨S',h1.other (Ht d.bP hL),h2⟩
theorem MI(l:List bO)(hL:∀c∈L,c.kind=2):∀i,i<(wV l++L).length->Y8 (wV l++L) i=false:=by
 intro i hi;unfold Y8;rw[List.any_eq_false];intro c hc;by_cases hk:i<(wV l).length
 . rw[List.take_append_of_le_length (by omega)]at hc;obtain⟨j,hj,rfl⟩:=bC.1 hc;rw[aJ]at hj;rw[List.getElem_take];have hl:(wV l).length=(od l).length:=by unfold wV;rw[aI]
   have e1:cat (wV l++L) i=cat l ((od l)[i]'(by omega)):=by
    rw[bW hi,List.getElem_append_left hk];simp[wV]
   have e2:(wV l)[j]'(by omega)=cat l ((od l)[j]'(by omega)):=by simp[wV]
   rw[e1,e2];intro hh;have hp:=aQ.1 (aaj (l:=l)) j i (by omega) (by omega) (by omega);have hne:=aQ.1 (List.nodup_iff_pairwise_ne.1 (Qr (l:=l))) j i (by omega) (by omega) (by omega);have:Rl l ((od l)[i]'(by omega)) ((od l)[j]'(by omega))=true:=G0.2 ⟨(HX.1 (az _)).1,(HX.1 (az _)).1,fun e=>hne e.symm,hh⟩;rw[hp]at this;cases this
 . have e1:cat (wV l++L) i∈L:=by
    rw[bW hi,List.getElem_append_right (by omega)];exact az _
   unfold F6;rw[ax];rintro⟨h1,_⟩;rw[hL _ e1]at h1;omega
theorem EV{l L:List bO}(hL:L.Perm (nU l)):∀c∈L,c.kind=2:=fun c hc=>aF (aR.1 (hL.mem_iff.1 hc)).2
end
end G
end
section
open IntKind(i64)
open G
namespace G
theorem abo(x:Int):0<=IntKind.u64.wrap x:=by
 simp[IntKind.wrap,IntKind.bits,IntKind.signed];omega
theorem WJ(a b:Int):0<=ea .u64 a b:=abo _
theorem zX(a c:Int):∃r,bU a c=some r:=by
 unfold bU;rw[mR (WJ _ _),mR (abo _)];exact⟨_,rfl⟩
theorem abz:((List.range 100).all fun i=>decide (0<=ea .i64 (i:Int) 15)&&decide (ea .i64 (i:Int) 15<16))=true:=by kernel_rfl
theorem Df{i:Nat}(h:i<100):0<=ea .i64 (i:Int) 15/\ea .i64 (i:Int) 15<16:=by
 have:=a7.1 abz i (List.mem_range.2 h);simpa using this
theorem wr{x:Int}{k:Nat}(h:x=(k:Int))(hk:k<=9223372036854775807):i64.wrap x=(k:Int):=by rw[h];exact Mb hk
theorem UO(b:List UInt8)(h:64<=b.length):∃w,Iter (qf b) ((0:Int),(fun _=>0))=some w:=by
 obtain⟨r,hr,_⟩:=cn (f:=qf b) (fun m s=>∃i:Nat,s.1=(i:Int)/\i<=16/\m=16-i) (fun _=>True) (by
  rintro m ⟨_,w⟩ ⟨i,hi,h16,rfl⟩;simp only at hi;subst hi;unfold qf;by_cases hlt:i<16
  . left;rw[if_pos (by simp only;omega)];simp only[wr (k:=4*i) (show(4:Int)*(i:Int)=((4*i:Nat):Int)by omega) (by omega)];rw[wr (k:=4*i+1) (by omega) (by omega),wr (k:=4*i+2) (by omega) (by omega),wr (k:=4*i+3) (by omega) (by omega),cC (by omega),cC (by omega),cC (by omega),cC (by omega)];simp only[ae];rw[mR (by omega),wr (k:=i+1) (by omega) (by omega)];exact⟨16-(i+1),_,rfl,by omega,i+1,rfl,by omega,rfl⟩
  . right;rw[if_neg (by simp only;omega)];exact⟨_,rfl,trivial⟩) 16 ((0:Int),(fun _=>0)) ⟨0,rfl,by omega,rfl⟩
 exact⟨r,hr⟩
theorem UQ(y:Nat->Int)(w v:Nat->Int):∃r,Iter (qg y) ((0:Int),w,v)=some r:=by
 obtain⟨r,hr,_⟩:=cn (f:=qg y) (fun m s=>∃i:Nat,s.1=(i:Int)/\i<=64/\m=64-i) (fun _=>True) (by
  rintro m ⟨_,w,v⟩ ⟨i,hi,h16,rfl⟩;simp only at hi;subst hi;unfold qg;by_cases hlt:i<64
  . left;rw[if_pos (by simp only;omega)];simp only[wr (k:=i+1) (show(i:Int)+1=((i+1:Nat):Int)by omega) (by omega),wr (k:=i+14) (show(i:Int)+14=((i+14:Nat):Int)by omega) (by omega),wr (k:=i+9) (show(i:Int)+9=((i+9:Nat):Int)by omega) (by omega)];rw[mR (by omega)];simp only[ae];obtain⟨a1,e1⟩:=zX (v 4) (-6);obtain⟨a2,e2⟩:=zX (v 4) (-11);obtain⟨a3,e3⟩:=zX (v 4) (-25);obtain⟨a4,e4⟩:=zX (v 0) (-2);obtain⟨a5,e5⟩:=zX (v 0) (-13);obtain⟨a6,e6⟩:=zX (v 0) (-22);rw[e1,e2,e3,e4,e5,e6];simp only[ae];rw[mR (Df (i:=i) (by omega))];simp only[ae];by_cases h16:16<=i
    . rw[if_pos (by omega),mR (Df (i:=i+1) (by omega)),mR (Df (i:=i+14) (by omega)),mR (Df (i:=i+9) (by omega))];obtain⟨b1,f1⟩:=zX (dQ w (ea .i64 ((i+1:Nat):Int) 15)) (-7);obtain⟨b2,f2⟩:=zX (dQ w (ea .i64 ((i+1:Nat):Int) 15)) (-18);obtain⟨b3,f3⟩:=zX (dQ w (ea .i64 ((i+14:Nat):Int) 15)) (-17);obtain⟨b4,f4⟩:=zX (dQ w (ea .i64 ((i+14:Nat):Int) 15)) (-19);rw[f1,f2,f3,f4];simp only[ae];rw[mR (by decide),mR (by decide)];exact⟨64-(i+1),_,rfl,by omega,i+1,rfl,by omega,rfl⟩
    . rw[if_neg (by omega)];simp only[ae];rw[mR (by decide),mR (by decide)];exact⟨64-(i+1),_,rfl,by omega,i+1,rfl,by omega,rfl⟩
  . right;rw[if_neg (by simp only;omega)];exact⟨_,rfl,trivial⟩) 64 ((0:Int),w,v) ⟨0,rfl,by omega,rfl⟩
 exact⟨r,hr⟩
def WD(v w:Nat->Int):Nat->(Nat->Int)
 |0=>w
 |k+1=>b7 (WD v w k) (k:Int) (IntKind.u32.wrap ((dQ (WD v w k) (k:Int))+(dQ v (k:Int))))
theorem UR(v w:Nat->Int)(r:List UInt8)(n:Int):Iter (qh v) ((0:Int),w,r,n)=some (WD v w 8,r,n):=by
 refine cu 8 (fun k=>((k:Int),WD v w k,r,n)) _ (fun k hk=>?_) ?_ rfl
 . unfold qh;rw[if_pos (by simp only;omega),mR (by simp only;omega)];simp only[ae];rw[wr (k:=k+1) (by omega) (by omega)];rfl
 . unfold qh;rw[if_neg (by simp only;omega)]
theorem PF(b:List UInt8)(h:64<=b.length)(w:Nat->Int):∃w',∀r n,qE b w r n=some (w',r,n):=by
 obtain⟨v1,h1⟩:=UO b h;obtain⟨y,hy⟩:∃y,Gv=some y:=⟨_,rfl⟩;obtain⟨v2,h2⟩:=UQ y v1 w;refine⟨WD v2 w 8,fun r n=>?_⟩;unfold qE;rw[h1,hy];simp only[ae];rw[h2];exact UR _ _ _ _
noncomputable def UN(b:List UInt8)(w:Nat->Int):Nat->Int:=if h:64<=b.length then(PF b h w).choose else w
theorem WL{b:List UInt8}(h:64<=b.length)(w:Nat->Int)(r:List UInt8)(n:Int):qE b w r n=some (UN b w,r,n):=by
 unfold UN;rw[dif_pos h];exact(PF b h w).choose_spec r n
noncomputable def tS(w:Nat->Int)(r:List UInt8):(Nat->Int)×List UInt8:=if 64<=r.length then tS (UN (r.take 64) w) (r.drop 64)else(w,r)
termination_by r.length
decreasing_by rw[bg];omega
theorem Q1{w:Nat->Int}{r:List UInt8}(h:¬ 64<=r.length):tS w r=(w,r):=by rw[tS,if_neg h]
theorem Ul{w:Nat->Int}{r:List UInt8}(h:64<=r.length):tS w r=tS (UN (r.take 64) w) (r.drop 64):=by rw[tS,if_pos h]
theorem O5(k:Nat):∀(w:Nat->Int) (r:List UInt8),r.length<=k->(tS w r).2.length<64/\(tS w r).2.length<=r.length:=by
 induction k using Nat.strongRecOn with
 |_ k ih=>
  intro w r hr
  by_cases h:64<=r.length
  . rw[Ul h]
    have hd:(r.drop 64).length=r.length-64:=by rw[bg]
    have:=ih (k-64) (by omega) (UN (r.take 64) w) (r.drop 64) (by omega)
    omega
  . rw[Q1 h];exact⟨Nat.lt_of_not_le h,Nat.le_refl _⟩
theorem YK(k:Nat):∀(w:Nat->Int) (r b:List UInt8),r.length<=k->tS w (r++b)=tS (tS w r).1 ((tS w r).2++b):=by
 induction k using Nat.strongRecOn with
 |_ k ih=>
  intro w r b hr
  by_cases h:64<=r.length
  . rw[Ul h,Ul (r:=r++b) (by rw[ak];omega),List.take_append_of_le_length h,List.drop_append_of_le_length h]
    exact ih (k-64) (by omega) _ _ _ (by rw[bg];omega)
  . rw[Q1 h]
theorem YL(k:Nat):∀(w:Nat->Int) (r:List UInt8) (n:Int),r.length<=k->Iter qX (w,r,n)=some ((tS w r).1,(tS w r).2,n):=by
 induction k using Nat.strongRecOn with
 |_ k ih=>
  intro w r n hr
  by_cases h:64<=r.length
  . rw[uz (s':=(UN (r.take 64) w,r.drop 64,n)) ?_,Ul h]
    . exact ih (k-64) (by omega) _ _ _ (by rw[bg];omega)
    . unfold qX
      rw[if_pos (by simp only;omega),AM (by simp only;omega)]
      simp only[ae]
      rw[show(64:Int).toNat=64 from rfl,WL (by rw[aJ];omega)]
      simp only[ae]
      rw[E1 (by omega)];rfl
  . rw[Q1 h]
    refine nD ?_
    unfold qX
    rw[if_neg (by simp only;omega)]
theorem Um(b:List UInt8)(w:Nat->Int)(r:List UInt8)(n:Int)(h:r.length+b.length<=140737488355328):rq b w r n=some ((tS w (r++b)).1,(tS w (r++b)).2,i64.wrap (n+(b.length:Int))):=by
 unfold rq;rw[dA (by omega)];exact YL _ _ _ _ (Nat.le_refl _)
theorem YM:xh=rq:=by kernel_rfl
end G
end
section
open IntKind(i64)
open G
namespace G
theorem abq(a:List UInt8)(h:a.length<=140737488355328):fe a=some a:=by
 unfold fe
 cases a with
 |nil=>
  show agree _ ((app 1 ([]:List UInt8) []).bind fun y=>some y)=_
  rw[dA (by simp)];exact Et _
 |cons x l=>
  show((app 1 ([]:List UInt8) (x::l)).bind fun y=>some y)=_
  rw[dA (by simp at h ⊢; omega)];rfl
theorem aeh{k:Nat}:Int.tmod (k:Int) 64=((k % 64:Nat):Int):=by
 rw[Int.tmod_eq_emod_of_nonneg (by omega)];omega
theorem Vc(w:Nat->Int)(r:List UInt8)(n:Int)(h:r.length<64):∃x,sd w r n=some x:=by
 unfold sd;have e1:Int.tmod (i64.wrap ((119:Int)-(r.length:Int))) 64=(((119-r.length) % 64:Nat):Int):=by
  rw[wr (k:=119-r.length) (by omega) (by omega)];exact aeh
 rw[e1,mR (by omega)];simp only[ae];rw[dA (by simp;omega)];simp only[ae];obtain⟨v3,h3,l3⟩:=cn (f:=sL n) (fun m s=> -1<=s.2/\s.2<=7/\(m:Int)=s.2+1/\s.1.length+m<=200) (fun x=>x.length<=200) (by
  rintro m ⟨l,i⟩ ⟨h1,h2,h4,h5⟩;simp only at h1 h2 h4 h5;unfold sL;by_cases hi:0<=i
  . left;rw[if_pos (by simp only;omega)];simp only[fm (x:=(8:Int)*i) (by omega) (by omega),fm (x:=i-1) (by omega) (by omega)];rw[mR (by omega)];simp only[ae];rw[dA (by simp;omega)];exact⟨m-1,_,rfl,by omega,by simp only;omega,by simp only;omega,by simp only;omega,by simp;omega⟩
  . right;rw[if_neg (by simp only;omega)];exact⟨_,rfl,by simp only;omega⟩) 8 ([(u8 128)]++List.replicate (((119-r.length) % 64:Nat):Int).toNat (0:UInt8),7) ⟨by simp,by simp,by simp,by simp;omega⟩
 rw[h3];simp only[ae];rw[YM,Um _ _ _ _ (by omega)];simp only[ae];generalize ((tS w (r++v3)).1,(tS w (r++v3)).2,i64.wrap (n+(v3.length:Int)))=y;obtain⟨x,hx,_⟩:=cn (f:=sM y) (fun m s=>∃i:Nat,s.1=(i:Int)/\i<=32/\m=32-i) (fun _=>True) (by
  rintro m ⟨_,f⟩ ⟨i,hi,h16,rfl⟩;simp only at hi;subst hi;unfold sM;by_cases hlt:i<32
  . left;have d1:Int.tdiv (i:Int) 4=((i/4:Nat):Int):=by rw[Int.tdiv_eq_ediv_of_nonneg (by omega)];omega
    have d2:Int.tmod (i:Int) 4=((i % 4:Nat):Int):=by rw[Int.tmod_eq_emod_of_nonneg (by omega)];omega
    rw[if_pos (by simp only;omega)];simp only[d1,d2,wr (k:=i/4) rfl (by omega),fm (x:=((i % 4:Nat):Int)*8) (by omega) (by omega),fm (x:=(24:Int)-((i % 4:Nat):Int)*8) (by omega) (by omega),wr (k:=i+1) (show(i:Int)+1=((i+1:Nat):Int)by omega) (by omega)];rw[mR (by omega),mR (by omega),mR (by omega)];exact⟨32-(i+1),_,rfl,by omega,i+1,rfl,by omega,rfl⟩
  . right;rw[if_neg (by simp only;omega)];exact⟨_,rfl,trivial⟩) 32 ((0:Int),(fun _=>0)) ⟨0,rfl,by omega,rfl⟩
 exact⟨x,hx⟩
noncomputable def HS(w:Nat->Int)(r:List UInt8)(n:Int):Nat->UInt8:=(qc w r n).getD fun _=>0
theorem Wy(w:Nat->Int)(r:List UInt8)(n:Int)(h:r.length<64):qc w r n=some (HS w r n):=by
 obtain⟨x,hx⟩:=Vc w r n h;have e:∃y,qc w r n=some y:=by
  unfold qc vO;rw[abq r (by omega)];simp only[ae];rw[hx];exact⟨_,rfl⟩
 obtain⟨y,hy⟩:=e;unfold HS;rw[hy];rfl
theorem Wn:∃w,Gu=some (w,[],0):=⟨_,rfl⟩
noncomputable def W0:Nat->Int:=Wn.choose
theorem Wo:Gu=some (W0,[],0):=Wn.choose_spec
theorem MR{α:Type}{l:List (List α)}{k:Nat}(h:k<l.length):(l.take (k+1)).flatten=(l.take k).flatten++l[k]:=by
 rw[aB h,bj];simp
theorem ZI{α:Type}(l:List (List α))(k:Nat):(l.take k).flatten.length<=l.flatten.length:=by
 have:=congrArg (fun l=>l.flatten.length) (List.take_append_drop k l);simp only[bj,ak]at this;omega
theorem Py(l:List (List UInt8))(w:Nat->Int)(r:List UInt8)(n:Int)(hr:r.length<64)(hl:l.length<=1000000)(hf:l.flatten.length<=1000000000)(hn:0<=n/\n<=1000000000000):
 ∃x,rp l w r n=some (x,(tS w (r++l.flatten)).1,(tS w (r++l.flatten)).2,n+(l.flatten.length:Int)):=by
 unfold rp
 have key:Iter (qW l) ((0:Int),w,r,n)=some ((tS w (r++l.flatten)).1,(tS w (r++l.flatten)).2,n+(l.flatten.length:Int)):=by
  refine cu l.length (fun k=>((k:Int),(tS w (r++(l.take k).flatten)).1,(tS w (r++(l.take k).flatten)).2,n+((l.take k).flatten.length:Int))) _ (fun k hk=>?_) ?_ ?_
  . have h1:=ZI l (k+1);rw[MR hk,ak]at h1;have h2:=(O5 _ w (r++(l.take k).flatten) (Nat.le_refl _)).1;unfold qW;rw[if_pos (by simp only;omega)];simp only[cC hk,ae];rw[Um _ _ _ _ (by omega)];simp only[ae];rw[df hk (by omega),fm (by omega) (by omega),MR hk,ak,<- aA,YK _ w (r++(l.take k).flatten) l[k] (Nat.le_refl _)];rw[show n+(((l.take k).flatten.length:Nat):Int)+(l[k].length:Int)=n+(((l.take k).flatten.length+l[k].length:Nat):Int)by omega]
  . unfold qW;rw[if_neg (by simp only;omega),bh]
  . simp[Q1 (w:=w) (r:=r) (by omega)]
 rw[key]
 exact⟨_,rfl⟩
noncomputable def Gs(x:List UInt8):Nat->UInt8:=HS (tS W0 x).1 (tS W0 x).2 (x.length:Int)
theorem Wp(l:List (List UInt8))(hl:l.length<=1000000)(hf:l.flatten.length<=1000000000):Ib l=some (Gs l.flatten):=by
 unfold Ib;rw[Wo];simp only[ae];obtain⟨x,hx⟩:=Py l W0 [] 0 (by simp) hl hf (by omega);rw[hx];simp only[ae,aY,Int.zero_add];rw[Wy _ _ _ (O5 _ _ _ (Nat.le_refl _)).1];rfl
end G
end
section
open G
namespace G
def val(f:Nat->Nat):Nat:=f 0+f 1*4294967296+f 2*18446744073709551616+f 3*79228162514264337593543950336
def lst(m n:Nat)(c:Bool):Bool:=if c then decide (m*m*m<=n*79228162514264337593543950336)else decide (m*m<=n*18446744073709551616)
def rtF(n:Nat)(c:Bool):Nat->Nat->Nat->Nat
 |0,lo,_=>lo
 |k+1,lo,hi=>if hi-lo>1 then(if lst ((lo+hi)/2) n c then rtF n c k ((lo+hi)/2) hi else rtF n c k lo ((lo+hi)/2))else lo
def rt(n:Nat)(c:Bool):Nat:=rtF n c 36 0 (if c then 34359738368 else 68719476736) % 4294967296
def pr(n:Nat):Nat->List Nat->Nat->Option (List Nat)
 |0,_,_=>none
 |k+1,l,p=>if l.length<n then pr n k (if l.all fun x=>p % x !=0 then l++[p]else l) (p+1)else some l
end G
end
section
open IntKind(i64)
open G
namespace G
def T(x:BitVec 32):Int:=(x.toNat:Int)
def rr(x:BitVec 32)(n:Nat):BitVec 32:=x >>> n ||| x <<< (32-n)
def sg0(x:BitVec 32):BitVec 32:=rr x 7 ^^^ rr x 18 ^^^ x >>> 3
def sg1(x:BitVec 32):BitVec 32:=rr x 17 ^^^ rr x 19 ^^^ x >>> 10
def Wd(m:Nat->BitVec 32)(t:Nat):BitVec 32:=if t<16 then m t else sg1 (Wd m (t-2))+Wd m (t-7)+sg0 (Wd m (t-15))+Wd m (t-16)
termination_by t
def t1(v:Nat->BitVec 32)(k w:BitVec 32):BitVec 32:=v 7+(rr (v 4) 6 ^^^ rr (v 4) 11 ^^^ rr (v 4) 25)+((v 4 &&& v 5) ^^^ (~~~(v 4) &&& v 6))+k+w
def t2(v:Nat->BitVec 32):BitVec 32:=(rr (v 0) 2 ^^^ rr (v 0) 13 ^^^ rr (v 0) 22)+((v 0 &&& v 1) ^^^ (v 0 &&& v 2) ^^^ (v 1 &&& v 2))
def step(v:Nat->BitVec 32)(k w:BitVec 32):Nat->BitVec 32
 |0=>t1 v k w+t2 v
 |4=>v 3+t1 v k w
 |i+1=>v i
noncomputable def rest(y8:Nat->Int)(t:Int)(w v:Nat->Int):Option ((Int×(Nat->Int)×(Nat->Int))⊕(Nat->Int)):=
 (bU (v 4) (-6:Int)).bind fun y22=>
 (bU (v 4) (-11:Int)).bind fun y23=>
 (bU (v 4) (-25:Int)).bind fun y24=>
 (rL (0<=(ea .i64 t (15:Int))/\(ea .i64 t (15:Int))<16)).bind fun y25=>
 (bU (v 0) (-2:Int)).bind fun y26=>
 (bU (v 0) (-13:Int)).bind fun y27=>
 (bU (v 0) (-22:Int)).bind fun y28=>
 (rL (0<=(1:Int)/\(1:Int)<8/\(1:Int)<=(8:Int)/\(8:Int)<=8)).bind fun y29=>
 (rL (0<=(0:Int)/\(0:Int)<8/\(0:Int)<=(7:Int)/\(7:Int)<=8)).bind fun y30=>
 some (.inl ((i64.wrap (t+(1:Int))),w,(b7 (b7 (CC v (1:Int).toNat (0:Int).toNat (lP ((8:Int)-(1:Int)) ((7:Int)-(0:Int))).toNat) 4 (IntKind.u32.wrap (((CC v (1:Int).toNat (0:Int).toNat (lP ((8:Int)-(1:Int)) ((7:Int)-(0:Int))).toNat) 4)+(IntKind.u32.wrap ((IntKind.u32.wrap ((IntKind.u32.wrap ((IntKind.u32.wrap ((v 7)+(jq .u32 (jq .u32 y22 y23) y24)))+(jq .u32 (v 6) (ea .u32 (v 4) (jq .u32 (v 5) (v 6))))))+(dQ y8 t)))+(dQ w (ea .i64 t (15:Int)))))))) 0 (IntKind.u32.wrap ((IntKind.u32.wrap ((IntKind.u32.wrap ((IntKind.u32.wrap ((IntKind.u32.wrap ((v 7)+(jq .u32 (jq .u32 y22 y23) y24)))+(jq .u32 (v 6) (ea .u32 (v 4) (jq .u32 (v 5) (v 6))))))+(dQ y8 t)))+(dQ w (ea .i64 t (15:Int)))))+(IntKind.u32.wrap ((jq .u32 (jq .u32 y26 y27) y28)+(RE .u32 (ea .u32 (v 0) (v 1)) (ea .u32 (v 2) (RE .u32 (v 0) (v 1)))))))))))
end G
end
section
open G
namespace G
def ws(m:Nat->BitVec 32)(k:Nat):List Int:=(List.range k).map fun i=>T (Wd m i)
def zs(n:Nat):List UInt8:=128::(List.replicate ((119-n % 64) % 64) 0)
end G
end
end Go.Proofs.YtekpafdhgkocaaaGreat
namespace Go.Proofs.YtekpafdhgkocaaaGreat
open G
namespace G
theorem YS:∀{L:List bO} {a b:Int},Wz a L b->(∀c∈L,1<=eD c)->L.Pairwise (fun x y=>ed x<=y.to)/\(∀c∈L,a<=c.to)/\a<=b
 |[],a,b,h,_=>⟨.nil,by simp,Int.le_of_eq h⟩
 |c::L,a,b,⟨h1,h2⟩,hl=>by
  obtain⟨k1,k2,k3⟩:=YS h2 fun x hx=>hl x (aD _ hx)
  have h3:=hl c ar;have h4:ed c=c.to+eD c:=rfl;refine⟨.cons k2 k1,fun x hx=>?_,by omega⟩;rcases aV.1 hx with rfl|hx
  . omega
  . have:=k2 x hx;omega
theorem YP:∀{L:List bO} {a b:Int},Wz a L b->∀o,a<=o->o<b->Ra L o
 |[],a,b,h,o,h1,h2=>by have h:a=b:=h;omega
 |c::L,a,b,⟨h1,h2⟩,o,h3,h4=>by
  by_cases h:o<ed c
  . exact⟨c,ar,by omega,h⟩
  . obtain⟨x,hx,k⟩:=YP h2 o (by omega) h4;exact⟨x,aD _ hx,k⟩
theorem acI{d:bZ}(hR:Pd d)(hg:∀c∈d.bP,Good d c)(ht:Wz 0 d.bP d.cd):VD d:=by
 refine⟨hR,hg,?_,YP ht⟩;have hp:=(YS ht fun c hc=>(hg c hc).qM).1;rw[aQ]at hp;rintro⟨i,j,hi,hj,hne,h⟩;rw[bW hi,bW hj]at h;unfold ov at h;rw[ax]at h;have:=(hg _ (az hi)).qM;rcases Nat.lt_or_gt_of_ne hne with k|k
 . have:=hp i j hi hj k;omega
 . have:=hp j i hj hi k;omega
section
variable {old new:List UInt8}{Mc:Int}
def fl(new:List UInt8)(l:List bO)(fr p:Nat):List bO:=if fr<p then l++[⟨2,(fr:Int),0,0,(new.take p).drop fr⟩]else l
theorem Pq{L:List bO}(ho:old.length<=10000)(hn:new.length<=10000)(hL:L.length<=100000)(hd:∀c∈L,c.data.length<=100000):uV old new L=some ⟨(old.length:Int),(new.length:Int),Gs old,Gs new,L⟩:=by
 unfold uV;rw[Wp _ (by simp) (by simp;omega),Wp _ (by simp) (by simp;omega)];simp only[ae,List.flatten_cons,List.flatten_nil,aK];rw[NN _ _ (fun c hc=>by have:=hd c hc;omega) (by omega)];rfl
end
end G
end Go.Proofs.YtekpafdhgkocaaaGreat
namespace Go.Proofs.YtekpafdhgkocaaaGreat
open G
namespace G
section
variable {d:bZ}{S:List bO}{a0:List UInt8}
def RU(a0:List UInt8)(S:List bO)(k:Nat):List UInt8:=((S.take k).map (BZ a0)).flatten
theorem Ty:RU a0 S S.length=file a0 S:=by
 unfold RU file Va;rw[bh]
 induction S with
 |nil=>rfl
 |cons c S ih=>rw[aO,List.flatten_cons,ih,List.flatMap_cons,aX];rfl
theorem PY{k:Nat}(hk:k<S.length):RU a0 S (k+1)=RU a0 S k++BZ a0 S[k]:=by
 unfold RU;rw[aB hk,aX,bj];simp
theorem WZ(k:Nat):(RU a0 S k).length<=(file a0 S).length:=by
 rw[<- Ty];unfold RU;rw[bh];have:=congrArg (fun l=>(l.map (BZ a0)).flatten.length) (List.take_append_drop k S);simp only[aX,bj,ak]at this;omega
theorem Px(h:Sm d S)(hl:d.cZ=(a0.length:Int))(ha:a0.length<=1000000){y:bZ}(hy:y.bP=S):
 Iter (tF a0 y) ((0:Int),W0,([]:List UInt8),(0:Int))=some ((tS W0 (file a0 S)).1,(tS W0 (file a0 S)).2,((file a0 S).length:Int)):=by
 have fl:=F0 (a0:=a0) h
 have hn:=h.new
 refine cu S.length (fun k=>((k:Int),(tS W0 (RU a0 S k)).1,(tS W0 (RU a0 S k)).2,((RU a0 S k).length:Int))) _ (fun k hk=>?_) ?_ ?_
 . have hf:=h.fit _ (az hk)
   have f1:=WZ (a0:=a0) (S:=S) k
   have f2:=WZ (a0:=a0) (S:=S) (k+1)
   rw[PY hk,ak]at f2
   have hs:=h.aeb
   unfold tF
   rw[hy,if_pos (by simp only;omega)]
   simp only[cC hk,ae]
   rw[RF hf (by omega) ha]
   simp only[ae]
   obtain⟨x,hx⟩:=Py [BZ a0 S[k]] (tS W0 (RU a0 S k)).1 (tS W0 (RU a0 S k)).2 ((RU a0 S k).length:Int) (O5 _ _ _ (Nat.le_refl _)).1 (by simp) (by simp;omega) (by omega)
   rw[hx]
   simp only[ae,List.flatten_cons,List.flatten_nil,aK]
   rw[df hk (by omega),<- YK _ W0 (RU a0 S k) _ (Nat.le_refl _),PY hk,ak]
   simp
 . unfold tF
   rw[hy,if_neg (by simp only;omega),Ty]
 . rw[show RU a0 S 0=[] from rfl,Q1 (by simp)];rfl
theorem UG(h:Sm d S)(hl:d.cZ=(a0.length:Int))(ha:a0.length<=1000000)(h1:uM (Gs a0) d.fU=true)(h2:uM (Gs (file a0 S)) d.fT=true):sc a0 d=some ⟨0,0⟩:=by
 have fl:=F0 (a0:=a0) h;have hn:=h.new;unfold sc;rw[(Pn (by have:=h.len;omega) h.vd).1];simp only[ae];rw[if_neg (by simp),if_neg (by simpa using hl),Wp _ (by simp) (by simp;omega)];simp only[ae,List.flatten_cons,List.flatten_nil,aK];rw[if_neg (by simp[h1]),Wo,h.sort];simp only[ae];rw[Px h hl ha rfl];simp only[ae];rw[Wy _ _ _ (O5 _ _ _ (Nat.le_refl _)).1];simp only[ae];rw[show HS (tS W0 (file a0 S)).1 (tS W0 (file a0 S)).2 ((file a0 S).length:Int)=Gs (file a0 S) from rfl,if_neg (by simp[h2])]
end
end G
end Go.Proofs.YtekpafdhgkocaaaGreat
namespace Go.Proofs.YtekpafdhgkocaaaGreat
section
open G
namespace G
section
variable {a0:List UInt8}{d:bZ}{S:List bO}
theorem Ri(h:Sm d S)(hn:d.bP.length<=20)(hl:d.cZ=(a0.length:Int))(ha:a0.length<=1000000)(hv:sc a0 d=some ⟨0,0⟩):
 ∃L,L.Perm (nU (jW a0 (zn (ev d.bP)) d.bP))/\(L.Pairwise fun a b=>a.to<=b.to)/\hU a0 d.bP=some (wV d.bP++L)/\
  tv a0 d=some (⟨d.cZ,d.cd,d.fU,d.fT,wV d.bP++L⟩,⟨0,0⟩):=by
 obtain⟨L,h1,h2,h3,h4⟩:=vw h hn hl ha
 obtain⟨S',hS',_⟩:=FM h h1
 refine⟨L,h1,h2,h4,?_⟩
 unfold tv
 rw[hv]
 simp only[ae]
 rw[if_neg (by simp),h3]
 simp only[ae]
 rw[NN d _ hS'.data (by have:=hS'.len;exact Nat.le_trans this (by omega))]
 rfl
end
def Ej:List UInt8:=[97,98,99,100,101,102,103,104]
def Lg:List UInt8:=[102,103,104,120,121,97,98,99]
def wQ:List bO:=[⟨1,0,5,3,[]⟩,⟨1,5,0,3,[]⟩,⟨2,3,0,0,[120,121]⟩]
def SK:List bO:=[⟨1,0,5,3,[]⟩,⟨2,3,0,0,[120,121]⟩,⟨1,5,0,3,[]⟩]
noncomputable def d15:bZ:=⟨8,8,Gs Ej,Gs Lg,wQ⟩
theorem aaP:VD ⟨8,8,Gs Ej,Gs Lg,SK⟩:=by
 refine acI (by unfold Pd;simp) (fun c hc=>?_) ⟨rfl,rfl,rfl,rfl⟩;have hc:c=⟨1,0,5,3,[]⟩\/c=⟨2,3,0,0,[120,121]⟩\/c=⟨1,5,0,3,[]⟩:=by simpa[SK]using hc
 rcases hc with rfl|rfl|rfl
 . exact⟨by decide,by decide,by show(3:Int)<=8;decide,by decide,fun _=>⟨by decide,by decide,by show(8:Int)<=8;decide,by decide,rfl⟩,fun h=>absurd rfl h⟩
 . exact⟨by decide,by decide,by show(5:Int)<=8;decide,by decide,(fun h=>by cases h),fun _=>⟨rfl,rfl,rfl⟩⟩
 . exact⟨by decide,by decide,by show(8:Int)<=8;decide,by decide,fun _=>⟨by decide,by decide,by show(3:Int)<=8;decide,by decide,rfl⟩,fun h=>absurd rfl h⟩
theorem WS:Sm d15 SK:=by
 have h:Sm ⟨8,8,Gs Ej,Gs Lg,SK⟩ SK:=⟨aaP,by decide,by show(8:Int)<=3000;decide,List.Perm.refl _,⟨rfl,rfl,rfl,rfl⟩⟩;exact h.other (L:=wQ) (by unfold wQ SK;exact(List.Perm.swap _ _ _).cons _)
theorem abS:file Ej SK=Lg:=by kernel_rfl
theorem lt3{v:Nat}(h:v<3):v=0\/v=1\/v=2:=by omega
theorem abd:uw (Rl wQ) 3 []=[0,1]:=by
 have h01:wo (Rl wQ) [] 0 1=true:=by decide
 have h10:wo (Rl wQ) [] 1 0=true:=by decide
 refine Ei ((List.perm_ext_iff_of_nodup (nV _ _) (by decide)).2 fun v=>?_) (yb _ _) (by decide);refine Iff.trans zl ?_;constructor
 . rintro⟨hv,ht⟩;rcases lt3 hv with rfl|rfl|rfl
   . decide
   . decide
   . obtain⟨k,hk⟩:=ht.fst;have hb:=(Pu _ _ (A1 hk).1).2;rcases lt3 hb with rfl|rfl|rfl<;>exact absurd hk (by decide)
 . intro hv;have hv:v=0\/v=1:=by simpa using hv
   rcases hv with rfl|rfl
   . exact⟨by decide,.cons h01 (.one h10)⟩
   . exact⟨by decide,.cons h10 (.one h01)⟩
theorem abG:uw (Rl wQ) 3 [0]=[]:=by
 refine aN fun hc=>?_
 cases hl:uw (Rl wQ) 3 [0]with
 |nil=>exact hc hl
 |cons v t=>
  obtain⟨h1,h2⟩:=zl.1 (by rw[hl];exact ar .. :v∈uw (Rl wQ) 3 [0])
  obtain⟨k,hk⟩:=h2.fst
  have hb:=(Pu _ _ (A1 hk).1).2
  rcases lt3 h1 with rfl|rfl|rfl<;>rcases lt3 hb with rfl|rfl|rfl<;>exact absurd hk (by decide)
theorem adf:ev wQ=[0]:=by
 show KH (Rl wQ) 3 (wt (lens wQ)) 3 []=[0];unfold KH;rw[if_neg (by rw[abd];decide),abd];have:Md (wt (lens wQ)) [0,1]=0:=by decide
 rw[this];show KH (Rl wQ) 3 (wt (lens wQ)) 2 [0]=[0];unfold KH;rw[if_pos abG]
theorem ad4:od wQ=[1]:=by
 unfold od;rw[adf];decide
def w15:List bO:=[⟨2,0,0,0,[102,103,104]⟩,⟨2,3,0,0,[120,121]⟩]
theorem ab5:nU (jW Ej (zn [0]) wQ)=w15:=by kernel_rfl
theorem adI:sc Ej d15=some ⟨0,0⟩:=UG WS rfl (by decide) (hash_self _) (by rw[abS];exact hash_self _)
theorem Jx:eu=some true:=by
 obtain⟨L,h1,h2,_,h3⟩:=Ri WS (by decide) rfl (by decide) adI;have hL:L=w15:=by
  have h1:L.Perm (nU (jW Ej (zn (ev wQ)) wQ)):=h1;rw[adf,ab5]at h1;refine tj _ _ h1 h2 (by decide) fun a ha b hb e=>?_
  have ha:a=⟨2,0,0,0,[102,103,104]⟩\/a=⟨2,3,0,0,[120,121]⟩:=by simpa[w15]using h1.mem_iff.1 ha
  have hb:b=⟨2,0,0,0,[102,103,104]⟩\/b=⟨2,3,0,0,[120,121]⟩:=by simpa[w15]using h1.mem_iff.1 hb
  rcases ha with rfl|rfl<;>rcases hb with rfl|rfl<;>first|rfl|(exact absurd e (by decide))
 have hc:wV d15.bP=[⟨1,5,0,3,[]⟩]:=by
  show(od wQ).map (cat wQ)=_;rw[ad4];rfl
 unfold eu;rw[show[(u8 97),(u8 98),(u8 99),(u8 100),(u8 101),(u8 102),(u8 103),(u8 104)]=Ej from by kernel_rfl,show[(u8 102),(u8 103),(u8 104),(u8 120),(u8 121),(u8 97),(u8 98),(u8 99)]=Lg from by kernel_rfl,
  show[(⟨(1:Int),(0:Int),(5:Int),(3:Int),([]:List UInt8)⟩:bO),(⟨(1:Int),(5:Int),(0:Int),(3:Int),([]:List UInt8)⟩:bO),(⟨(2:Int),(3:Int),(0:Int),(0:Int),[(u8 120),(u8 121)]⟩:bO)]=wQ from by kernel_rfl,
  show[(u8 102),(u8 103),(u8 104)]=([102,103,104]:List UInt8) from by kernel_rfl,Pq (by decide) (by decide) (by decide) (by decide)]
 simp only[ae];rw[show(⟨(Ej.length:Int),(Lg.length:Int),Gs Ej,Gs Lg,wQ⟩:bZ)=d15 from rfl,h3,hL,hc];have i1:idx wQ 1=some ⟨1,5,0,3,[]⟩:=rfl;have i2:idx wQ 2=some ⟨2,3,0,0,[120,121]⟩:=rfl;rw[i1,i2];simp only[ae];rw[if_pos (by simp),NI _ _ (by decide)];simp only[ae];rw[aG (by rfl)]
end G
end
section
open IntKind(i64)
open G
namespace G
theorem GY(a:List Int)(hn:a.length<=1000):ig a a=some true:=by
 unfold ig;rw[if_neg (by simp)];refine cu (f:=lK a a) a.length (fun k=>(k:Int)) _ (fun k hk=>?_) ?_ rfl
 . unfold lK;rw[if_pos (by omega),cC hk];simp only[ae];rw[if_neg (by simp),df hk (by omega)]
 . unfold lK;rw[if_neg (by omega)]
theorem X1{n k:Nat}(hk:k<n):H0 (zn (List.range n)) (k:Int)=k:=by
 have hl:(zn (List.range n)).length=n:=by rw[cN,List.length_range]
 have hg:∀{j:Nat} (h:j<(zn (List.range n)).length),(zn (List.range n))[j]=(j:Int):=fun h=>by simp[zn]
 exact OT (by rw[hl];exact hk) (hg _) fun hm=>by
  obtain⟨j,hj,he⟩:=List.mem_take_iff_getElem.1 hm;rw[hg]at he;omega
section
variable {a0:List UInt8}{d:bZ}{S:List bO}{l L:List bO}
def Safe(l:List bO):Prop:=∀i,i<l.length->Y8 l i=false
theorem Safe.abH(h:Safe l){i j:Nat}(hr:Rl l i j=true):i<j:=by
 obtain⟨h1,h2,h3,h4⟩:=G0.1 hr;refine aN fun hn=>?_
 have hji:j<i:=by omega
 have:=h i h1;unfold Y8 at this;rw[List.any_eq_false]at this;refine this (cat l j) ?_ h4;rw[bW h2];exact bC.2 ⟨j,by rw[aJ];omega,List.getElem_take⟩
theorem Safe.tc(h:Safe l){S:List Nat}{i j:Nat}(ht:TC (wo (Rl l) S) i j):i<j:=by
 induction ht with
 |one hr=>exact h.abH (A1 hr).1
 |cons hr _ ih=>have:=h.abH (A1 hr).1;omega
theorem Safe.ev(h:Safe l):ev l=[]:=by
 refine tA.2.2.2.1 (aN fun hc=>?_);cases hl:uw (Rl l) l.length []with
 |nil=>exact hc hl
 |cons v t=>
  have:=h.tc (zl.1 (by rw[hl];exact ar .. :v∈uw (Rl l) l.length [])).2
  omega
theorem Xp(l:List bO):jW a0 (zn []) l=l:=by
 rw[K6];apply bN (by simp);intro i h1 h2;rw[List.getElem_map,List.getElem_range,bW h2];unfold oi;rw[if_neg (by simp[zn])]
theorem FL(l:List bO)(hL:L.Perm (nU (jW a0 (zn (ev l)) l))):(wV l++L).length=l.length:=by rw[(Ht l hL).length_eq,jJ]
theorem Sv(hn:l.length<=1000)(h:∀i (hi:i+1<l.length),¬ (l[i].kind=2/\(l[i+1].kind≠2\/l[i+1].to<l[i].to))):Iter (fJ l) (([]:List Int),(0:Int))=some (.inl (zn (List.range l.length))):=by
 refine cu (f:=fJ l) l.length (fun k=>(zn (List.range k),(k:Int))) _ (fun k hk=>?_) ?_ rfl
 . unfold fJ;rw[if_pos (by simp only;omega)];simp only[cC hk,ae,df hk (by omega)];rw[dA (by rw[cN,List.length_range,bn];omega)];simp only[ae];have hr:zn (List.range (k+1))=zn (List.range k)++[(k:Int)]:=by rw[List.range_succ,ql];rfl
   rw[hr]
   cases k with
   |zero=>rw[if_neg (by omega)];rfl
   |succ k=>
    have hk1:k<l.length:=by omega
    rw[if_pos (by omega),show((k+1:Nat):Int)-1=(k:Int)by omega,fm (by omega) (by omega),cC hk1]
    simp only[ae]
    have:=h k hk
    by_cases h2:l[k].kind=2
    . rw[if_pos h2]
      by_cases h3:l[k+1].kind=2
      . rw[if_neg (by simpa using h3),decide_eq_false fun h4=>this ⟨h2,.inr h4⟩];rfl
      . exact absurd ⟨h2,.inl h3⟩ this
    . rw[if_neg h2];rfl
 . unfold fJ;rw[if_neg (by simp)]
theorem RO(hL:∀c∈L,c.kind=2)(hs:L.Pairwise fun a b=>a.to<=b.to):∀i (hi:i+1<(wV l++L).length),¬ ((wV l++L)[i].kind=2/\((wV l++L)[i+1].kind≠2\/(wV l++L)[i+1].to<(wV l++L)[i].to)):=by
 intro i hi ⟨h1,h2⟩;have hk:∀c∈wV l,c.kind≠2:=fun c hc=>by
  obtain⟨x,hx,rfl⟩:=List.mem_map.1 hc;exact(HX.1 hx).2.1
 by_cases hi1:i<(wV l).length
 . rw[List.getElem_append_left hi1]at h1;exact hk _ (az _) h1
 . rw[ak]at hi;rw[List.getElem_append_right (by omega),List.getElem_append_right (by omega)]at h2;rcases h2 with h2|h2
   . exact h2 (hL _ (az _))
   . have:=aQ.1 hs (i-(wV l).length) (i+1-(wV l).length) (by omega) (by omega) (by omega);omega
theorem YX(h:Safe l):Pf (zn (List.range l.length)) (Ly l l.length)=[]:=by
 unfold Pf;rw[List.filter_eq_nil_iff];intro p hp;obtain⟨h1,h2⟩:=Bp.1 hp;have h3:=(HW.1 h2).1;have e1:H0 (zn (List.range l.length)) (p.1:Int)=p.1:=X1 h1;have e2:H0 (zn (List.range l.length)) (p.2:Int)=p.2:=X1 h3;rw[e1,e2,ax];have:=h.abH (i:=p.1) (j:=p.2) (by unfold Rl;simp[h1,h2]);omega
theorem Nq(h:Sm d S):(ev d.bP++od d.bP).Perm ((List.range d.bP.length).filter fun i=>decide ((cat d.bP i).kind=1)):=by
 have hk:∀i,i<d.bP.length->((cat d.bP i).kind≠2↔(cat d.bP i).kind=1):=fun i hi=>by
  have:=xx hi;constructor
  . exact fun h2=>aN fun h1=>h2 (ZY h this h1)
  . exact fun h1=>by rw[h1];decide
 refine(List.perm_ext_iff_of_nodup ?_ (nV _ _)).2 fun x=>?_
 . rw[List.nodup_append];exact⟨tA.2.1,Qr,fun a ha b hb e=>(HX.1 hb).2.2 (by rw[<- e];exact ha)⟩
 . rw[aL,ia,ax,HX];constructor
   . rintro(hx|⟨h1,h2,_⟩)
     . exact tA.2.2.1 x hx
     . exact⟨h1,(hk x h1).1 h2⟩
   . rintro⟨h1,h2⟩;by_cases hx:x∈ev d.bP
     . exact .inl hx
     . exact .inr ⟨h1,(hk x h1).2 h2,hx⟩
theorem PN(hn:d.bP.length<=1000):Iter (fY d) ((0:Int),([]:List Int))=some (zn ((List.range d.bP.length).filter fun i=>decide ((cat d.bP i).kind=1))):=by
 refine rO (f:=fY d) d.bP.length (fun i=>decide ((cat d.bP i).kind=1)) (fun k acc=>((k:Int),zn acc)) _ (fun k hk=>?_) ?_ rfl
 . unfold fY;have:=la k fun i=>decide ((cat d.bP i).kind=1)
   rw[if_pos (by simp only;omega)];simp only[cC hk,ae,df hk (by omega),bW hk];by_cases h:d.bP[k].kind=1
   . rw[if_pos h,dA (by rw[cN,bn];omega),if_pos (aG h),ql];rfl
   . rw[if_neg h,if_neg (by simpa using h),aK]
 . unfold fY;rw[if_neg (by simp)]
def cl(c:bO):Int:=if c.kind=1 then c.len else 0
theorem IC(h:Sm d S):uE d=some (yU cl d.bP,d.cd-yU cl d.bP)/\0<=yU cl d.bP/\yU cl d.bP<=d.cd:=by
 have hc:∀c∈d.bP,0<=cl c/\cl c<=eD c:=fun c hc=>by
  have hg:=(h.vd.sD c hc).fit.nice.qM;unfold cl;split
  . rename_i hk;rw[yd hk]at hg ⊢; omega
  . omega
 have ht:=V3 h.vd (by have:=h.len;omega);have hle:∀l:List bO,(∀c∈l,0<=cl c/\cl c<=eD c)->yU cl l<=yU eD l:=fun l=>by
  induction l with
  |nil=>exact fun _=>Int.le_refl _
  |cons c l ih=>
   intro h
   have h1:=h c (ar ..)
   have h2:=ih fun x hx=>h x (aD _ hx)
   show cl c+yU cl l<=eD c+yU eD l
   omega
 have h1:=hle _ hc;have h0:=BR cl d.bP fun c hc'=>(hc c hc').1
 have hnew:=h.new;have hlen:=h.len;refine⟨?_,h0,by omega⟩;unfold uE;have hI:Iter (qx d) ((0:Int),(0:Int))=some (yU cl d.bP):=by
  refine cu (f:=qx d) d.bP.length (fun k=>(yU cl (d.bP.take k),(k:Int))) _ (fun k hk=>?_) ?_ rfl
  . have hb:=YU cl d.bP (fun c hc'=>(hc c hc').1) (k+1);rw[LZ cl d.bP hk]at hb;unfold qx;rw[if_pos (by simp only;omega)];simp only[cC hk,ae,G1,df hk (by omega)];rw[LZ cl d.bP hk];by_cases hkd:d.bP[k].kind=1
    . have e:cl d.bP[k]=d.bP[k].len:=by unfold cl;rw[if_pos hkd]
      rw[e]at hb ⊢;simp only[if_pos hkd,if_true];rw[fm (by omega) (by omega)]
    . have e:cl d.bP[k]=0:=by unfold cl;rw[if_neg hkd]
      rw[e,Int.add_zero];simp[hkd]
  . unfold qx;rw[if_neg (by simp),bh]
 rw[hI];simp only[ae];rw[fm (by omega) (by omega)]
theorem Us(l:List bO):∀t:List Nat,(∀i∈t,(cat l i).kind=1)->yU cl (t.map (cat l))=(t.map fun i=>(cat l i).len).sum
 |[],_=>rfl
 |i::t,h=>by
  have h1:=h i (ar ..);rw[aO,aO,List.sum_cons,<- Us l t fun j hj=>h j (aD _ hj)];show cl (cat l i)+_=_;unfold cl;rw[if_pos h1]
theorem SW(l:List bO):yU cl (l.filter fun c=>decide (c.kind=1))=yU cl l:=by
 induction l with
 |nil=>rfl
 |cons c l ih=>
  rw[List.filter_cons]
  by_cases h:c.kind=1
  . rw[if_pos (aG h)]
    show cl c+_=cl c+_
    rw[ih]
  . rw[if_neg (by simpa using h),ih]
    show _=cl c+yU cl l
    unfold cl
    rw[if_neg h,Int.zero_add]
theorem Ur:∀L:List bO,(∀c∈L,c.kind=2)->yU cl L=0
 |[],_=>rfl
 |c::L,h=>by
  show cl c+yU cl L=0;rw[Ur L fun x hx=>h x (aD _ hx)];unfold cl;rw[h c (ar ..),if_neg (by decide)];rfl
theorem VL(l:List bO):(List.range l.length).map (cat l)=l:=by
 apply bN (by simp);intro i h1 h2;rw[List.getElem_map,List.getElem_range,bW h2]
theorem adj(h:Sm d S)(hL:∀c∈L,c.kind=2):yU cl (wV d.bP++L)=yU cl d.bP-Vg d.bP:=by
 have h1:yU cl d.bP=yU cl ((ev d.bP++od d.bP).map (cat d.bP)):=by
  rw[Q4 cl ((Nq h).map (cat d.bP)),<- SW d.bP];congr 1
  conv=>lhs;rw[<- VL d.bP]
  rw[List.filter_map];rfl
 rw[h1,aX,yV,yV,Ur L hL];have h2:yU cl ((ev d.bP).map (cat d.bP))=Vg d.bP:=Us _ _ fun i hi=>(tA.2.2.1 i hi).2
 rw[h2];unfold wV;omega
theorem P6(h:Sm d S):Vg d.bP=0↔ev d.bP=[]:=by
 unfold Vg;have hb:∀i∈ev d.bP,1<=(cat d.bP i).len:=fun i hi=>by
  obtain⟨h1,h2⟩:=tA.2.2.1 i hi;have:=(h.vd.sD _ (xx h1)).fit.nice.qM;rw[yd h2]at this;exact this
 generalize ev d.bP=t at*
 have:∀t:List Nat,(∀i∈t,1<=(cat d.bP i).len)->(t.length:Int)<=(t.map fun i=>(cat d.bP i).len).sum:=fun t=>by
  induction t with
  |nil=>simp
  |cons x t ih=>
   intro h
   have h1:=h x (ar ..)
   have h2:=ih fun y hy=>h y (aD _ hy)
   rw[aO,List.sum_cons,bH];omega
 have:=this t hb;constructor
 . intro e;rw[e]at this;exact List.length_eq_zero_iff.1 (by omega)
 . rintro rfl;rfl
end
end G
theorem G.xc(a0:bZ)(h0:bZ.Ok a0):o8 a0=some true:=by
 have n1:a0.bP.length<=9223372036854775807:=h0.2.2.1;unfold o8;obtain⟨b,e1,s1⟩:=yf a0 n1;rw[e1,Jx];simp only[ae];cases b
 . rfl
 obtain⟨hn,S,hS⟩:=s1 rfl;have hR:=Gp hS hn;obtain⟨g,hg⟩:=vY hR;have hel:=KQ (l:=a0.bP);have hol:=XL (l:=a0.bP);unfold qu zT;rw[if_neg (by decide),hg];simp only[ae];rw[dA (by rw[cN];simp;omega),aY];simp only[ae];rw[dA (by rw[cN,cN];omega),<- ql];simp only[ae];obtain⟨r,hr,hp,hs⟩:=QO.qO (G.zn (G.ev a0.bP++G.od a0.bP)) (by rw[cN,ak];omega);have hrr:r=G.zn ((List.range a0.bP.length).filter fun i=>decide ((cat a0.bP i).kind=1)):=DC (hp.trans ((Nq hS).map _)) hs (DF (yb _ _));rw[hr,hrr,PN (by omega)];simp only[ae];rw[if_pos trivial,wi hR];simp only[ae];rw[GY _ (by rw[cN];omega)];simp only[ae];rw[if_pos trivial,Ek hR];simp only[ae];rw[GY _ (by rw[cN];omega)];simp only[ae];rw[if_pos trivial,GZ hS hn,OY hS hn];simp only[ae];rw[if_pos trivial,GY _ (by rw[cN];have:=la a0.bP.length fun i=>decide ((cat a0.bP i).kind=1);omega)];rfl
theorem G.wC(a0:List UInt8)(a1:bZ)(_h0:Len a0)(h1:bZ.Ok a1):n8 a0 a1=some true:=by
 have n1:a1.bP.length<=9223372036854775807:=h1.2.2.1;unfold n8;obtain⟨b,e1,s1⟩:=yf a1 n1;rw[e1,Jx];by_cases hl:(a0.length:Int)>300
 . rw[if_pos hl];rfl
 rw[if_neg hl];simp only[ae];cases b
 . rfl
 obtain⟨hn,S,hS⟩:=s1 rfl;rw[if_neg (by simp)];simp only[ae];by_cases hol:¬ a1.cZ=(a0.length:Int)
 . rw[if_pos (by simpa using hol)]
 have hol:=Classical.not_not.1 hol;rw[if_neg (by simpa using hol)];obtain⟨L,hL,hs,hA,hA2⟩:=vw (a0:=a0) hS hn hol (by omega);obtain⟨S',hS',_⟩:=FM hS hL;have hk:=EV hL;have hlen:=FL a1.bP hL;have hsafe:G.Safe (wV a1.bP++L):=MI a1.bP hk;rw[hA,hA2];simp only[ae];rw[Sv (by omega) (RO hk hs)];have hR2:Rt (wV a1.bP++L):=Gp hS' (by show(wV a1.bP++L).length<=20;omega);have hv:=YX hsafe;have hzl:(G.zn (List.range (wV a1.bP++L).length)).length<=1000:=by rw[cN,List.length_range];omega
 simp only[ae,sx];rw[if_pos trivial,if_pos (by rw[hlen]),NI _ _ (by omega),aG rfl];simp only[ae];rw[if_pos trivial,Zl hR2 _ hzl,hv];simp only[ae];rw[if_pos (by rfl),Rp hR2 _ hzl,hv];rfl
theorem G.xb(a0:List UInt8)(a1:bZ)(_h0:Len a0)(h1:bZ.Ok a1):o4 a0 a1=some true:=by
 have n1:a1.bP.length<=9223372036854775807:=h1.2.2.1;unfold o4;obtain⟨b,e1,s1⟩:=yf a1 n1;rw[e1,Jx];by_cases hl:(a0.length:Int)>300
 . rw[if_pos hl];rfl
 rw[if_neg hl];simp only[ae];cases b
 . rfl
 obtain⟨hn,S,hS⟩:=s1 rfl;rw[if_neg (by simp)];simp only[ae];by_cases hol:¬ a1.cZ=(a0.length:Int)
 . rw[if_pos (by simpa using hol)]
 have hol:=Classical.not_not.1 hol;rw[if_neg (by simpa using hol)];obtain⟨L,hL,hs,hA,_⟩:=vw (a0:=a0) hS hn hol (by omega);obtain⟨S',hS',_⟩:=FM hS hL;have hk:=EV hL;obtain⟨t1,t2,t3⟩:=IC hS;obtain⟨u1,u2,u3⟩:=IC hS';have hg:=adj hS hk;have hnew:=hS.new;have hz:=P6 hS;obtain⟨E,hE,hG⟩:=HI (Gp hS hn);have hord:=IU hG Pu (by omega) (S:=[]) (by simp);have hkn:=MW (S:=[]) (R:=G.Rl a1.bP) (n:=a1.bP.length) Pu;have hce:=(tA (l:=a1.bP)).2.2.2;rw[t1,hA];simp only[ae];unfold nC;simp only[ae];rw[u1];simp only[ae];rw[GZ hS hn];simp only[ae];rw[hE];simp only[ae];rw[show G.zn []=([]:List Int) from rfl]at hord;rw[hord];simp only[ae];have u2:0<=yU G.cl (wV a1.bP++L):=u2;have u3:yU G.cl (wV a1.bP++L)<=a1.cd:=u3;have hw1:i64.wrap (a1.cd-yU G.cl a1.bP+Vg a1.bP)=a1.cd-yU G.cl a1.bP+Vg a1.bP:=fm (by omega) (by omega);have hw2:i64.wrap (yU G.cl a1.bP-Vg a1.bP)=yU G.cl a1.bP-Vg a1.bP:=fm (by omega) (by omega);rw[if_pos trivial,hw1,hw2,if_pos (by omega),if_pos (by omega)];congr 1;by_cases hev:G.ev a1.bP=[]
 . rw[if_pos (hkn.2 (hce.2 hev)),hz.2 hev];rfl
 . rw[if_neg fun e=>hev (hce.1 (hkn.1 e))];have:¬ Vg a1.bP=0:=fun e=>hev (hz.1 e)
   simp[this]
theorem G.xa(a0:List UInt8)(a1:bZ)(_h0:Len a0)(h1:bZ.Ok a1):oZ a0 a1=some true:=by
 have n1:a1.bP.length<=9223372036854775807:=h1.2.2.1;unfold oZ;obtain⟨b,e1,s1⟩:=yf a1 n1;rw[e1,Jx];by_cases hl:(a0.length:Int)>300
 . rw[if_pos hl];rfl
 rw[if_neg hl];simp only[ae];cases b
 . rfl
 obtain⟨hn,S,hS⟩:=s1 rfl;rw[if_neg (by simp)];simp only[ae];by_cases hol:¬ a1.cZ=(a0.length:Int)
 . rw[if_pos (by simpa using hol)]
 have hol:=Classical.not_not.1 hol;rw[if_neg (by simpa using hol)];obtain⟨L,hL,hs,hA,_⟩:=vw (a0:=a0) hS hn hol (by omega);obtain⟨S',hS',_⟩:=FM hS hL;have hk:=EV hL;have hlen:=FL a1.bP hL;have hsafe:G.Safe (wV a1.bP++L):=MI a1.bP hk;have hev:=hsafe.ev;rw[hA];simp only[ae];unfold nC;simp only[ae];have hn2:(wV a1.bP++L).length<=20:=by omega
 generalize wV a1.bP++L=l at*
 obtain⟨b2,e2,_⟩:=yf ⟨a1.cZ,a1.cd,a1.fU,a1.fT,l⟩ (by show l.length<=_;omega);rw[e2];simp only[ae];cases b2
 . rfl
 rw[if_neg (by decide)];obtain⟨L2,hL2,hs2,hB,_⟩:=vw (a0:=a0) hS' hn2 hol (by omega);obtain⟨S2,hS2,_⟩:=FM hS' hL2;have hlen2:(wV l++L2).length=l.length:=FL l hL2;have hpm:(wV l++L2).Perm l:=by
  have:=Ht l hL2;rw[hev,Xp]at this;exact this
 have hB:ft a0 l=some (wV l++L2):=hB;have hS2:G.Sm ⟨a1.cZ,a1.cd,a1.fU,a1.fT,wV l++L2⟩ S2:=hS2;rw[hB];simp only[ae];generalize wV l++L2=m at*
 obtain⟨L3,hL3,hs3,hC,hC2⟩:=vw (a0:=a0) hS2 (by show m.length<=20;omega) hol (by omega);have hlen3:(wV m++L3).length=m.length:=FL m hL3;have hC:ft a0 m=some (wV m++L3):=hC;have hC2:hU a0 m=some (wV m++L3):=hC2;rw[hC,hC2];simp only[ae];obtain⟨g,hg⟩:=vY (Gp hS' hn2);have hg:rh l=some (l,G.zn (G.ev l),G.zn (G.od l),g):=hg;unfold qu;simp only;rw[if_pos trivial,hg,hev];simp only[ae];rw[if_pos (by rfl),GZ hS' hn2];have hgz:Vg l=0:=(P6 hS').2 hev;simp only[ae];rw[if_pos hgz];obtain⟨A,hA1,hA2,hA3⟩:=EW m (by omega);obtain⟨B,hB1,hB2,hB3⟩:=EW l (by omega);have hinj:=SV hS'.vd;have hAB:A=B:=tj _ _ (hA2.trans (hpm.trans hB2.symm)) hA3 hB3 fun a ha b hb e=>hinj a (hpm.mem_iff.1 (hA2.mem_iff.1 ha)) b (hpm.mem_iff.1 (hA2.mem_iff.1 hb)) e
 have hBl:=hB2.length_eq;rw[hA1,hB1,hAB];simp only[ae];rw[NI _ _ (by omega),aG rfl];simp only[ae];rw[if_pos trivial,NI _ _ (by omega),aG rfl];rfl
end
section
open Go.RowKit
structure Mem where
 w:World
 im:Nat->Nat->Prop
def Mem.ok(m:Mem)(b o:Nat):Prop:=m.im b o/\b<m.w.heap.size
structure Le(m m':Mem):Prop where
 os:m'.w.os=m.w.os
 tape:m'.w.tape=m.w.tape
 output:m'.w.output=m.w.output
 size:m.w.heap.size<=m'.w.heap.size
 same:∀b o,m.ok b o->m'.ok b o/\m'.w.cell? ⟨b,o,none⟩=m.w.cell? ⟨b,o,none⟩
theorem Le.refl(m:Mem):Le m m:=⟨rfl,rfl,rfl,Nat.le_refl _,fun _ _ h=>⟨h,rfl⟩⟩
theorem Le.trans{a b c:Mem}(h:Le a b)(k:Le b c):Le a c:=
 ⟨k.os.trans h.os,k.tape.trans h.tape,k.output.trans h.output,Nat.le_trans h.size k.size,fun x o hx=>
  ⟨(k.same x o (h.same x o hx).1).1,((k.same x o (h.same x o hx).1).2).trans (h.same x o hx).2⟩⟩
structure ck where
 blocks:List Nat
 RY:Nat->Nat->Prop
 ok:World->Prop
 lt:∀w,ok w->∀b∈blocks,b<w.heap.size
 loc:∀w w',ok w->(∀b∈blocks,w'.heap[b]?=w.heap[b]?)->ok w'
theorem we{w:World}{b:Nat}{o:Obj}(h:w.heap[b]?=some o):b<w.heap.size:=(Array.getElem?_eq_some_iff.1 h).1
def ck.box(b:Nat)(cs:Array Value)(T:TypeId):ck:=
 ⟨[b],fun _ _=>True,fun w=>w.heap[b]?=some (.cells cs T (0,0)),fun w h c hc=>by simp at hc;subst hc;exact we h,
  fun w w' h hs=>by rw[hs b (by simp)];exact h⟩
def ck.obj(b:Nat)(o:Obj):ck:=
 ⟨[b],fun _ _=>True,fun w=>w.heap[b]?=some o,fun w h c hc=>by simp at hc;subst hc;exact we h,
  fun w w' h hs=>by rw[hs b (by simp)];exact h⟩
def ck.row(g:Option Nat)(T:TypeId)(size n:Nat):ck:=
 ⟨g.toList,fun _ o=>n<=o,fun w=>∀b,g=some b->∃cur,w.heap[b]?=some (.cells cur T (0,0))/\cur.size=size,
  fun w h c hc=>by
   have:g=some c:=by cases g<;>simp_all
   obtain⟨cur,h1,_⟩:=h c this;exact we h1,
  fun w w' h hs b hb=>by
   obtain⟨cur,h1,h2⟩:=h b hb;exact⟨cur,by rw[hs b (by rw[hb];simp)];exact h1,h2⟩⟩
def bX(L:List ck):List Nat:=L.flatMap (·.blocks)
@[simp] theorem Zr:bX []=[]:=rfl
@[simp] theorem gU(e:ck)(L:List ck):bX (e::L)=e.blocks++bX L:=rfl
@[simp] theorem fo(L R:List ck):bX (L++R)=bX L++bX R:=by simp[bX]
theorem fK{L:List ck}{b:Nat}:b∈bX L↔∃e∈L,b∈e.blocks:=by simp[bX]
structure Ow(m:Mem)(L:List ck):Prop where
 nodup:(bX L).Nodup
 ok:∀e∈L,e.ok m.w
 apart:∀e∈L,∀b∈e.blocks,∀o,e.RY b o->¬ m.ok b o
structure St(B:List Nat)(m0 m:Mem)(L:List ck):Prop where
 le:Le m0 m
 kept:∀b,b<m0.w.heap.size->b ∉ B->m.w.heap[b]?=m0.w.heap[b]?
 news:∀b o,m.ok b o->m0.ok b o\/m0.w.heap.size<=b\/b∈B
 ow:Ow m L
 Mc:∀b∈bX L,b∈B\/m0.w.heap.size<=b
section
variable {B:List Nat}{m0 m m':Mem}{L R L':List ck}{e e':ck}
theorem St.refl(h:Ow m L):St (bX L) m m L:=
 ⟨Le.refl m,fun _ _ _=>rfl,fun _ _ h=>.inl h,h,fun _ h=>.inl h⟩
theorem Ow.lt(h:Ow m L){b:Nat}(hb:b∈bX L):b<m.w.heap.size:=by
 obtain⟨e,he,hbe⟩:=fK.1 hb;exact e.lt _ (h.ok e he) b hbe
theorem Ow.right(h:Ow m (L++R)):Ow m R:=
 ⟨by have:=h.nodup;rw[fo]at this;exact(List.nodup_append.1 this).2.1,fun e he=>h.ok e (by simp[he]),fun e he=>h.apart e (by simp[he])⟩
theorem Ow.left(h:Ow m (L++R)):Ow m L:=
 ⟨by have:=h.nodup;rw[fo]at this;exact(List.nodup_append.1 this).1,fun e he=>h.ok e (by simp[he]),fun e he=>h.apart e (by simp[he])⟩
theorem Ow.nil(m:Mem):Ow m []:=⟨List.nodup_nil,fun e h=>(by cases h),fun e h=>(by cases h)⟩
theorem St.frame(h:St B m0 m (L++R))(k:St (bX L) m m' L'):St B m0 m' (L'++R):=by
 have hn:=h.ow.nodup;rw[fo]at hn;obtain⟨_,nR,nLR⟩:=List.nodup_append.1 hn;have hR:=h.ow.right;have out:∀b∈bX R,b ∉ bX L:=fun b hb hl=>nLR b hl b hb rfl
 have hlt:∀b∈bX R,b<m.w.heap.size:=fun b hb=>hR.lt hb
 refine⟨h.le.trans k.le,fun b hb hB=>?_,fun b o ho=>?_,⟨?_,fun e he=>?_,fun e he b hb o ho hm=>?_⟩,fun b hb=>?_⟩
 . rw[k.kept b (Nat.lt_of_lt_of_le hb h.le.size) (fun hl=>?_),h.kept b hb hB];rcases h.Mc b (by rw[fo];exact bw _ hl)with h1|h1
   . exact hB h1
   . omega
 . rcases k.news b o ho with h1|h1|h1
   . exact h.news b o h1
   . exact .inr (.inl (Nat.le_trans h.le.size h1))
   . rcases h.Mc b (by rw[fo];exact bw _ h1)with h2|h2
     . exact .inr (.inr h2)
     . exact .inr (.inl h2)
 . rw[fo];refine List.nodup_append.2 ⟨k.ow.nodup,nR,fun a ha b hb=>?_⟩;rintro rfl;rcases k.Mc a ha with h1|h1
   . exact out a hb h1
   . have:=hlt a hb;omega
 . rcases aL.1 he with h1|h1
   . exact k.ow.ok e h1
   . exact e.loc _ _ (hR.ok e h1) fun b hb=>k.kept b (hlt b (fK.2 ⟨e,h1,hb⟩)) (out b (fK.2 ⟨e,h1,hb⟩))
 . rcases aL.1 he with h1|h1
   . exact k.ow.apart e h1 b hb o ho hm
   . have hbr:=fK.2 ⟨e,h1,hb⟩;rcases k.news b o hm with h2|h2|h2
     . exact hR.apart e h1 b hb o ho h2
     . have:=hlt b hbr;omega
     . exact out b hbr h2
 . rw[fo]at hb;rcases aL.1 hb with h1|h1
   . rcases k.Mc b h1 with h2|h2
     . exact h.Mc b (by rw[fo];exact bw _ h2)
     . exact .inr (Nat.le_trans h.le.size h2)
   . exact h.Mc b (by rw[fo];exact bL _ h1)
theorem St.call(h:St B m0 m R)(k:St [] m m' L'):St B m0 m' (L'++R):=St.frame (L:=[]) h k
theorem Ow.perm(h:Ow m L)(p:List.Perm L R):Ow m R:=
 ⟨((List.Perm.flatMap_right ck.blocks p).nodup_iff).1 h.nodup,fun e he=>h.ok e (p.mem_iff.2 he),fun e he=>h.apart e (p.mem_iff.2 he)⟩
theorem St.perm(h:St B m0 m L)(p:List.Perm L R):St B m0 m R:=
 ⟨h.le,h.kept,h.news,h.ow.perm p,fun b hb=>h.Mc b (by
  obtain⟨e,he,hbe⟩:=fK.1 hb;exact fK.2 ⟨e,p.mem_iff.2 he,hbe⟩)⟩
theorem Lu:∀(L:List ck) (i:Nat) (e:ck),L[i]?=some e->List.Perm L (e::L.eraseIdx i)
 |[],_,_,h=>by simp at h
 |x::L,0,e,h=>by simp at h;subst h;exact List.Perm.refl _
 |x::L,i+1,e,h=>by
  simp at h;exact((Lu L i e h).cons x).trans (List.Perm.swap e x _)
theorem St.front(h:St B m0 m L)(i:Nat)(hi:L[i]?=some e):St B m0 m (e::L.eraseIdx i):=h.perm (Lu L i e hi)
theorem St.drop(h:St B m0 m (e::L)):St B m0 m L:=
 ⟨h.le,h.kept,h.news,Ow.right (L:=[e]) h.ow,fun b hb=>h.Mc b (by rw[gU];exact bL _ hb)⟩
theorem St.TN(h:St B m0 m (e::L)):St B m0 m [e]:=by
 have:=h;exact⟨h.le,h.kept,h.news,Ow.left (L:=[e]) h.ow,fun b hb=>h.Mc b (by rw[gU];rw[gU]at hb;simp at hb;exact bw _ hb)⟩
theorem St.qB(h:St B m0 m (L++R)):St B m0 m L:=
 ⟨h.le,h.kept,h.news,Ow.left h.ow,fun b hb=>h.Mc b (by rw[fo];exact bw _ hb)⟩
def Mem.Cq(m:Mem)(X:Nat->Nat->Prop):Mem:=⟨m.w,fun b o=>m.ok b o\/X b o⟩
theorem Le.Cq(m:Mem)(X:Nat->Nat->Prop):Le m (m.Cq X):=⟨rfl,rfl,rfl,Nat.le_refl _,fun _ _ h=>⟨⟨.inl h,h.2⟩,rfl⟩⟩
theorem St.Cq(h:St B m0 m (e::R))(X:Nat->Nat->Prop)(hX:∀b o,X b o->b∈e.blocks)(hok:e'.ok m.w)(hb:∀b∈e'.blocks,b∈e.blocks)(hn:e'.blocks.Nodup)
 (hf:∀b∈e'.blocks,∀o,e'.RY b o->e.RY b o/\¬ X b o):St B m0 (m.Cq X) (e'::R):=by
 have k:St (bX [e]) m (m.Cq X) [e']:=by
  refine⟨Le.Cq m X,fun _ _ _=>rfl,fun b o ho=>?_,⟨by simpa using hn,fun x hx=>?_,fun x hx b hbb o ho hm=>?_⟩,fun b hbb=>?_⟩
  . rcases ho.1 with h1|h1
    . exact .inl h1
    . exact .inr (.inr (by simpa using hX b o h1))
  . simp at hx;subst hx;exact hok
  . simp at hx;subst hx;obtain⟨h1,h2⟩:=hf b hbb o ho;rcases hm.1 with h3|h3
    . exact h.ow.apart e (by simp) b (hb b hbb) o h1 h3
    . exact h2 h3
  . simp at hbb;exact .inl (by simpa using hb b hbb)
 exact St.frame (L:=[e]) h k
@[reducible] def Mem.up(m:Mem)(w':World):Mem:=⟨w',fun b o=>m.ok b o\/m.w.heap.size<=b⟩
theorem Dl{w w':World}(h:Below w.heap.size w w'){b o:Nat}(hb:b<w.heap.size):w'.cell? ⟨b,o,none⟩=w.cell? ⟨b,o,none⟩:=by
 unfold World.cell?;rw[Below.block h b hb]
theorem Le.up(m:Mem){w':World}(h:Below m.w.heap.size m.w w'):Le m (m.up w'):=
 ⟨Below.os h,Below.tape h,Below.output h,Below.size h,fun b o hb=>⟨⟨.inl hb,Nat.lt_of_lt_of_le hb.2 (Below.size h)⟩,Dl h hb.2⟩⟩
theorem St.up(m:Mem){w':World}(h:Below m.w.heap.size m.w w'):St [] m (m.up w') []:=
 ⟨Le.up m h,fun b hb _=>Below.block h b hb,fun b o ho=>ho.1.imp id .inl,Ow.nil _,fun b hb=>by simp at hb⟩
theorem St.below(h:St [] m m' L):Below m.w.heap.size m.w m'.w:=
 ⟨h.le.os,h.le.tape,h.le.output,h.le.size,fun b hb=>h.kept b hb (by simp)⟩
theorem St.new{o:Obj}(h:St B m0 m L){w':World}(hw:w'=m.w.alloc o)(e:ck)(hb:e.blocks=[m.w.heap.size])(hok:e.ok w'):St B m0 ⟨w',m.ok⟩ (e::L):=by
 subst hw;have k:St [] m ⟨m.w.alloc o,m.ok⟩ [e]:=by
  have hg:Below m.w.heap.size m.w (m.w.alloc o):=(Below.refl _ _).alloc (Nat.le_refl _) o;refine⟨⟨rfl,rfl,rfl,Below.size hg,fun b x hx=>⟨⟨hx,Nat.lt_of_lt_of_le hx.2 (Below.size hg)⟩,Dl hg hx.2⟩⟩,fun b hb _=>Below.block hg b hb,fun b x hx=>.inl hx.1,⟨by simp[hb],fun x hx=>?_,fun x hx c hc q _ hm=>?_⟩,fun c hc=>?_⟩
  . simp at hx;subst hx;exact hok
  . simp at hx;subst hx;rw[hb]at hc;simp at hc;subst hc;exact absurd hm.1.2 (by simp)
  . simp[hb]at hc;subst hc;exact .inr (Nat.le_refl _)
 exact h.call k
theorem jR(w:World)(o:Obj):(w.alloc o).heap[w.heap.size]?=some o:=heap_alloc_new w o
theorem St.CE(h:St B m0 m L)(cs:Array Value)(T:TypeId):St B m0 ⟨m.w.alloc (.cells cs T (0,0)),m.ok⟩ (.box m.w.heap.size cs T::L):=
 h.new rfl (.box m.w.heap.size cs T) rfl (jR _ _)
theorem St.drew(h:St B m0 m L):St B m0 (m.up m.w.drew) L:=h.call (St.up m (Below.refl _ _).drew)
theorem St.write{b:Nat}{cs cs':Array Value}{T:TypeId}(h:St B m0 m (.box b cs T::R)){w':World}(hw:m.w.grownBy w' (some b))(hsz:w'.heap.size=m.w.heap.size)(hb:w'.heap[b]?=some (.cells cs' T (0,0))):
 St B m0 ⟨w',m.ok⟩ (.box b cs' T::R):=by
 have hap:=h.ow.apart (.box b cs T) (by simp) b (by simp[ck.box])
 have k:St (bX [ck.box b cs T]) m ⟨w',m.ok⟩ [ck.box b cs' T]:=by
  have hk:∀c,c<m.w.heap.size->c≠b->w'.heap[c]?=m.w.heap[c]?:=fun c hc hne=>hw.block c hc (fun e=>hne (by cases e;rfl))
  refine⟨⟨hw.os,hw.tape,hw.output,hw.size,fun c o hc=>⟨⟨hc,by simpa[hsz]using hc.2⟩,?_⟩⟩,fun c hc hn=>hk c hc (by simpa[ck.box]using hn),fun c o hc=>.inl hc.1,⟨by simp[ck.box],fun x hx=>?_,fun x hx c hc o _ hm=>?_⟩,fun c hc=>?_⟩
  . have hne:c≠b:=fun e=>by subst e;exact hap o trivial hc
    show w'.cell? _=m.w.cell? _;unfold World.cell?;rw[hk c hc.2 hne]
  . simp at hx;subst hx;exact hb
  . simp at hx;subst hx;simp[ck.box]at hc;subst hc;exact hap o trivial hm.1
  . simp[ck.box]at hc;subst hc;exact .inl (by simp[ck.box])
 exact St.frame (L:=[ck.box b cs T]) h k
theorem St.IH{b:Nat}{cs:Array Value}{T:TypeId}(h:St B m0 m L)(i:Nat)(hi:L[i]?=some (.box b cs T)):m.w.heap[b]?=some (.cells cs T (0,0)):=
 h.ow.ok _ (List.mem_of_getElem? hi)
theorem St.Qq{b:Nat}{o:Obj}(h:St B m0 m L)(i:Nat)(hi:L[i]?=some (.obj b o)):m.w.heap[b]?=some o:=
 h.ow.ok _ (List.mem_of_getElem? hi)
theorem St.vj{b:Nat}{o o':Obj}(h:St B m0 m (.obj b o::R)){w':World}(hw:m.w.grownBy w' (some b))(hsz:w'.heap.size=m.w.heap.size)(hb:w'.heap[b]?=some o'):
 St B m0 ⟨w',m.ok⟩ (.obj b o'::R):=by
 have hap:=h.ow.apart (.obj b o) (by simp) b (by simp[ck.obj])
 have k:St (bX [ck.obj b o]) m ⟨w',m.ok⟩ [ck.obj b o']:=by
  have hk:∀c,c<m.w.heap.size->c≠b->w'.heap[c]?=m.w.heap[c]?:=fun c hc hne=>hw.block c hc (fun e=>hne (by cases e;rfl))
  refine⟨⟨hw.os,hw.tape,hw.output,hw.size,fun c o hc=>⟨⟨hc,by simpa[hsz]using hc.2⟩,?_⟩⟩,fun c hc hn=>hk c hc (by simpa[ck.obj]using hn),fun c o hc=>.inl hc.1,⟨by simp[ck.obj],fun x hx=>?_,fun x hx c hc o _ hm=>?_⟩,fun c hc=>?_⟩
  . have hne:c≠b:=fun e=>by subst e;exact hap o trivial hc
    show w'.cell? _=m.w.cell? _;unfold World.cell?;rw[hk c hc.2 hne]
  . simp at hx;subst hx;exact hb
  . simp at hx;subst hx;simp[ck.obj]at hc;subst hc;exact hap o trivial hm.1
  . simp[ck.obj]at hc;subst hc;exact .inl (by simp[ck.obj])
 exact St.frame (L:=[ck.obj b o]) h k
end
def Spec(P:Program)(f:FuncId)(args:Array Value)(m:Mem)(L:List ck)(Q:Value->Mem->List ck->Prop):Prop:=
 Calls P f args m.w fun e w'=>∃v m' L',e=.returned v/\m'.w=w'/\St (bX L) m m' L'/\Q v m' L'
end
end Go.Proofs.YtekpafdhgkocaaaGreat
