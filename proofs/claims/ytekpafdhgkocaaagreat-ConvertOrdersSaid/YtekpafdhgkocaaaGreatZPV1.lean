/- Part of the proof. -/
import Derived.Test.YtekpafdhgkocaaaGreatZPLV
namespace Go.Proofs.YtekpafdhgkocaaaGreat
section
open G
namespace G
def zn(l:List Nat):List Int:=l.map fun k:Nat=>(k:Int)
theorem cN(l:List Nat):(zn l).length=l.length:=aI ..
theorem ql(a b:List Nat):zn (a++b)=zn a++zn b:=aX
theorem rK{l:List Nat}{k:Nat}:(k:Int)∈zn l↔k∈l:=by
 unfold zn;rw[List.mem_map];refine⟨fun⟨j,h,e⟩=>?_,fun h=>⟨k,h,rfl⟩⟩;obtain rfl:j=k:=by omega
 exact h
theorem GW{l:List Nat}{x:Int}:x∈zn l↔∃k∈l,x=(k:Int):=by
 unfold zn;rw[List.mem_map];exact⟨fun⟨j,h,e⟩=>⟨j,h,e.symm⟩,fun⟨j,h,e⟩=>⟨j,h,e.symm⟩⟩
theorem Aa{l:List Nat}{i:Nat}(h:i<l.length):idx (zn l) (i:Int)=some ((l[i]:Nat):Int):=by
 rw[cC (by rw[cN];exact h)];simp[zn]
theorem Uw(l:List Nat)(k:Nat):(zn l).take k=zn (l.take k):=List.map_take.symm
theorem aa2(l:List Nat)(k:Nat):(zn l).drop k=zn (l.drop k):=List.map_drop.symm
theorem Q9{l:List Nat}(h:l.Nodup):(zn l).Nodup:=Nh (fun a b e=>by omega) h
theorem DF{l:List Nat}(h:l.Pairwise (· < ·)):(zn l).Pairwise (· <= ·):=by
 unfold zn;rw[List.pairwise_map];exact h.imp fun h=>by omega
theorem yb(n:Nat)(p:Nat->Bool):((List.range n).filter p).Pairwise (· < ·):=List.Pairwise.filter _ List.pairwise_lt_range
theorem nV(n:Nat)(p:Nat->Bool):((List.range n).filter p).Nodup:=List.Pairwise.filter _ List.nodup_range
theorem la(n:Nat)(p:Nat->Bool):((List.range n).filter p).length<=n:=by have:=bt p (List.range n);simpa using this
theorem ia{n k:Nat}{p:Nat->Bool}:k∈(List.range n).filter p↔k<n/\p k=true:=by rw[aR,List.mem_range]
theorem aaz(k:Nat)(p:Nat->Bool):(List.range (k+1)).filter p=(List.range k).filter p++if p k=true then[k]else[]:=by
 rw[List.range_succ,List.filter_append];cases h:p k<;>simp[h]
theorem rO{σ α:Type}{f:σ->Option (σ⊕α)}(n:Nat)(p:Nat->Bool)(st:Nat->List Nat->σ)(r:α)
 (hstep:∀k,k<n->f (st k ((List.range k).filter p))=some (.inl (st (k+1) ((List.range k).filter p++if p k=true then[k]else[])))) (hend:f (st n ((List.range n).filter p))=some (.inr r)) {s:σ} (hs:s=st 0 []):Iter f s=some r:=
 cu n (fun k=>st k ((List.range k).filter p)) r (fun k hk=>by rw[aaz];exact hstep k hk) hend hs
def mk(l:List Nat)(f:Nat->Int):List (Int×Int):=l.map fun k:Nat=>((k:Int),f k)
theorem mk_congr{l:List Nat}{f g:Nat->Int}(h:∀k∈l,f k=g k):mk l f=mk l g:=List.map_congr_left fun k hk=>by rw[h k hk]
theorem Lf{l:List Nat}{f:Nat->Int}(k:Nat):dJ cX (mk l f) (k:Int)=if k∈l then some (f k)else none:=by
 induction l with
 |nil=>rfl
 |cons x l ih=>
  unfold mk at ih ⊢
  rw[aO,vJ,ih]
  by_cases h:k=x
  . subst h;rw[if_pos (eO.refl _),if_pos (ar ..)]
  . rw[if_neg (by rw[eO.ne fun e=>h (by simp only at e;omega)];simp)]
    by_cases h2:k∈l
    . rw[if_pos h2,if_pos (aD _ h2)]
    . rw[if_neg h2,if_neg fun hm=>(aV.1 hm).elim h h2]
def Zc(f:Nat->Int)(k:Nat)(y:Int)(x:Nat):Int:=if x=k then y else f x
theorem Xy{l:List Nat}{f:Nat->Int}(k:Nat):(mk l f).any (fun p=>cX (k:Int) p.1)=decide (k∈l):=by
 rw[Bool.eq_iff_iff,bI,ax];unfold mk;constructor
 . rintro⟨p,hp,he⟩;obtain⟨j,hj,rfl⟩:=List.mem_map.1 hp;have:=(eO _ _).1 he;obtain rfl:k=j:=by simp only at this;omega
   exact hj
 . exact fun h=>⟨_,List.mem_map.2 ⟨k,h,rfl⟩,eO.refl _⟩
theorem Xz{l:List Nat}{f:Nat->Int}{k:Nat}{y:Int}(h:k∈l):lA cX (mk l f) (k:Int) y=mk l (Zc f k y):=by
 unfold lA;rw[Xy,if_pos (aG h)];unfold mk;rw[List.map_map];refine List.map_congr_left fun x _=>?_
 simp only[Function.comp,Zc];by_cases e:x=k
 . subst e;rw[if_pos (eO.refl _),if_pos rfl]
 . rw[if_neg (by rw[eO.ne fun e'=>e (by omega)];simp),if_neg e]
theorem ab9{l:List Nat}{f:Nat->Int}{k:Nat}{y:Int}(h:k ∉ l)(hf:f k=y):lA cX (mk l f) (k:Int) y=mk (l++[k]) f:=by
 unfold lA;rw[Xy,if_neg (by simp[h])];unfold mk;rw[aX,<- hf];rfl
theorem ab7{l:List Nat}{f:Nat->Int}(k:Nat):Vq cX (mk l f) (k:Int)=mk (l.filter fun x=>decide (x≠k)) f:=by
 unfold Vq mk;rw[List.filter_map];congr 1;refine bJ fun x _=>?_
 simp only[Function.comp];by_cases e:x=k
 . subst e;rw[eO.refl];simp
 . rw[eO.ne fun e'=>e (by omega)];simp[e]
theorem ab8(l:List Nat)(f:Nat->Int):(mk l f).length=l.length:=aI ..
theorem Z4(l:List Nat)(f:Nat->Int):(mk l f).map (fun e=>e.1)=zn l:=by unfold mk zn;rw[List.map_map];rfl
def outs(R:Nat->Nat->Bool)(n v:Nat):List Nat:=(List.range n).filter (R v)
def ins(R:Nat->Nat->Bool)(n v:Nat):List Nat:=(List.range n).filter fun u=>R u v
structure PG(n:Nat)(R:Nat->Nat->Bool)(es:List (bQ×Bool))(out nm:List (Int×List Int)):Prop where
 ex:∃L:List bQ,GR L es out nm/\L.length<=2000/\∀e,e∈L↔∃i j:Nat,i<n/\j<n/\R i j=true/\e=⟨(i:Int),(j:Int)⟩
section
variable {n:Nat}{R:Nat->Nat->Bool}{es:List (bQ×Bool)}{out nm:List (Int×List Int)}
theorem Ny{L:List bQ}(hn:L.Nodup)(a b:bQ->Int)(hab:∀e e':bQ,a e=a e'->b e=b e'->e=e')(v:Nat){w:List Nat}(hw:w.Nodup)(hm:∀x:Int,(∃e∈L,a e=(v:Int)/\b e=x)↔x∈zn w):
 ((L.filter fun e=>cX (a e) (v:Int)).map b).Perm (zn w):=by
 refine(List.perm_ext_iff_of_nodup ?_ (Q9 hw)).2 fun x=>?_
 . rw[List.nodup_iff_pairwise_ne,List.pairwise_map]
   refine List.Pairwise.imp_of_mem (R:=fun a b=>a≠b) (fun{p q} hp hq hne e=>hne ?_) (List.Pairwise.filter _ hn)
   have e1:=(eO _ _).1 (aR.1 hp).2
   have e2:=(eO _ _).1 (aR.1 hq).2
   exact hab _ _ (e1.trans e2.symm) e
 . rw[List.mem_map,<- hm]
   constructor
   . rintro⟨e,he,rfl⟩
     obtain⟨h1,h2⟩:=aR.1 he
     exact⟨e,h1,(eO _ _).1 h2,rfl⟩
   . rintro⟨e,h1,h2,rfl⟩
     exact⟨e,aR.2 ⟨h1,(eO _ _).2 h2⟩,rfl⟩
theorem Tq{e e':bQ}(h1:e.cp=e'.cp)(h2:e.to=e'.to):e=e':=by cases e;cases e';simp only at h1 h2;subst h1 h2;rfl
theorem PG.ady(h:PG n R es out nm){v:Nat}(hv:v<n):((dJ cX out (v:Int)).getD []).Perm (zn (outs R n v)):=by
 obtain⟨L,hG,_,h3⟩:=h.ex;rw[hG.out];refine Ny hG.nd (·.cp) (·.to) (fun e e'=>Tq) v (nV _ _) fun x=>?_
 rw[GW];constructor
 . rintro⟨e,he,h1,rfl⟩;obtain⟨i,j,hi,hj,hr,rfl⟩:=(h3 e).1 he;obtain rfl:i=v:=by simp only at h1;omega
   exact⟨j,ia.2 ⟨hj,hr⟩,rfl⟩
 . rintro⟨j,hj,rfl⟩;obtain⟨h1,h2⟩:=ia.1 hj;exact⟨⟨(v:Int),(j:Int)⟩,(h3 _).2 ⟨v,j,hv,h1,h2,rfl⟩,rfl,rfl⟩
theorem PG.inp(h:PG n R es out nm){v:Nat}(hv:v<n):((dJ cX nm (v:Int)).getD []).Perm (zn (ins R n v)):=by
 obtain⟨L,hG,_,h3⟩:=h.ex;rw[hG.nm];refine Ny hG.nd (·.to) (·.cp) (fun e e' h1 h2=>Tq h2 h1) v (nV _ _) fun x=>?_
 rw[GW];constructor
 . rintro⟨e,he,h1,rfl⟩;obtain⟨i,j,hi,hj,hr,rfl⟩:=(h3 e).1 he;obtain rfl:j=v:=by simp only at h1;omega
   exact⟨i,ia.2 ⟨hi,hr⟩,rfl⟩
 . rintro⟨j,hj,rfl⟩;obtain⟨h1,h2⟩:=ia.1 hj;exact⟨⟨(j:Int),(v:Int)⟩,(h3 _).2 ⟨j,v,h1,hv,h2,rfl⟩,rfl,rfl⟩
theorem MB{v w:List Int}(hw:v.Perm w)(hs:w.Pairwise (· <= ·))(hn:w.length<50):cR v=some w:=by
 have hl:=hw.length_eq;unfold cR;rw[J2 _ (by omega)];simp only[ae];obtain⟨r,e,h1,h2⟩:=QO.qO v (by omega);rw[e];simp only[ae];rw[DC (h1.trans hw) h2 hs]
theorem PG.Out(h:PG n R es out nm)(hn:n<50){v:Nat}(hv:v<n)(N:Int)(e2:List (bQ×Bool))(i2:List (Int×List Int)):gM (v:Int) N e2 out i2=some (zn (outs R n v)):=by
 have:=la n (R v);unfold gM gR;simp only[ae];rw[MB (h.ady hv) (DF (yb _ _)) (by rw[cN];unfold outs;omega)];rfl
theorem PG.In(h:PG n R es out nm)(hn:n<50){v:Nat}(hv:v<n)(N:Int)(e2:List (bQ×Bool))(o2:List (Int×List Int)):rT (v:Int) N e2 o2 nm=some (zn (ins R n v)):=by
 have:=la n fun u=>R u v
 unfold rT gR;simp only[ae];rw[MB (h.inp hv) (DF (yb _ _)) (by rw[cN];unfold ins;omega)];rfl
def wo(R:Nat->Nat->Bool)(S:List Nat)(i j:Nat):Bool:=R i j&&(decide (i ∉ S)&&decide (j ∉ S))
theorem J9{γ:Type}{S:List Nat}(hS:S.length<=1000)(hR:∀i j,R i j=true->i≠j)(kk:((List (bQ×Bool))×Int×(List (bQ×Bool))×(List (Int×(List Int)))×(List (Int×(List Int))))->Option γ){r:γ}{L:List bQ}(hL:L.length<=2000)(hnd:L.Nodup)
 (h3:∀e,e∈L↔∃i j:Nat,i<n/\j<n/\R i j=true/\e=⟨(i:Int),(j:Int)⟩) (y1:Int×(List (bQ×Bool))×(List (Int×(List Int)))×(List (Int×(List Int)))) (hy:y1.1=(n:Int))
 (hk:∀es2 out2 inn2,PG n (wo R S) es2 out2 inn2->kk (es,(n:Int),es2,out2,inn2)=some r):
 ∀(p done:List bQ) (LL:List bQ) (es2:List (bQ×Bool)) (out2 inn2:List (Int×List Int)),(done++p).Perm L->GR LL es2 out2 inn2->LL.length<=done.length->(∀e,e∈LL↔e∈done/\e.cp ∉ zn S/\e.to ∉ zn S)->
  pT (fB (zn S) y1) (kz kk y1) p (es,es2,out2,inn2)=some r
 |[],done,LL,es2,out2,inn2,hp,hG,hl,hm=>by
  rw[aK]at hp;unfold pT kz;rw[hy,hk es2 out2 inn2 ⟨LL,hG,by have:=hp.length_eq;omega,fun e=>?_⟩];rfl;rw[hm,hp.mem_iff,h3];constructor
  . rintro⟨⟨i,j,hi,hj,hr,rfl⟩,h1,h2⟩;exact⟨i,j,hi,hj,by unfold wo;simp only[rK]at h1 h2;simp[hr,h1,h2],rfl⟩
  . rintro⟨i,j,hi,hj,hr,rfl⟩;unfold wo at hr;simp only[aq,ax]at hr;exact⟨⟨i,j,hi,hj,hr.1,rfl⟩,by simp only[rK];exact hr.2.1,by simp only[rK];exact hr.2.2⟩
 |e::p,done,LL,es2,out2,inn2,hp,hG,hl,hm=>by
  have hlen:=hp.length_eq;rw[ak,bH]at hlen;have heL:e∈L:=hp.mem_iff.1 (by simp);obtain⟨i,j,hi,hj,hr,rfl⟩:=(h3 e).1 heL;have hnd2:=(hp.nodup_iff).2 hnd;have hed:(⟨(i:Int),(j:Int)⟩:bQ) ∉ done:=fun hd=>(List.nodup_append.1 hnd2).2.2 _ hd _ (ar ..) rfl
  have hp':((done++[(⟨(i:Int),(j:Int)⟩:bQ)])++p).Perm L:=by rw[aA];exact hp
  have hgo:∀{LL':List bQ} {es3:List (bQ×Bool)} {out3 inn3:List (Int×List Int)},fB (γ:=γ) (zn S) y1 ⟨(i:Int),(j:Int)⟩ (es,es2,out2,inn2)=some (.inl (es,es3,out3,inn3))->GR LL' es3 out3 inn3->LL'.length<=done.length+1->
   (∀e,e∈LL'↔e∈done++[⟨(i:Int),(j:Int)⟩]/\e.cp ∉ zn S/\e.to ∉ zn S)->pT (fB (zn S) y1) (kz kk y1) (⟨(i:Int),(j:Int)⟩::p) (es,es2,out2,inn2)=some r:=fun h1 h2 h3' h4=>by
   unfold pT
   rw[h1]
   exact J9 hS hR kk hL hnd h3 y1 hy hk p _ _ _ _ _ hp' h2 (by simpa using h3') h4
  have hc1:=rN (zn S) (i:Int) (by rw[cN];omega);have hc2:=rN (zn S) (j:Int) (by rw[cN];omega);by_cases hc:(i:Int) ∉ zn S/\(j:Int) ∉ zn S
  . obtain⟨k,es3,out3,inn3,L3,ha,hG3,hor⟩:=We (n:=(n:Int)) hG (i:=(i:Int)) (j:=(j:Int)) (by omega) (by omega) (by omega) (by omega) (by omega);rcases hor with⟨h4|h4,_⟩|⟨_,rfl⟩
    . exact absurd (by omega:i=j) (hR i j hr)
    . exact absurd ((hm _).1 h4).1 hed
    . refine hgo (es3:=es3) (out3:=out3) (inn3:=inn3) ?_ hG3 (by simp;omega) fun e=>?_
      . unfold fB;simp only[hc1,hc2,ae,hy,ha];rw[if_pos (by simp[hc.1])];simp only[ae];rw[if_pos (by simp[hc.2])]
      . rw[aL,aL,hm,List.mem_singleton];constructor
        . rintro(h|rfl)
          . exact⟨.inl h.1,h.2⟩
          . exact⟨.inr rfl,hc⟩
        . rintro⟨h|rfl,h2⟩
          . exact .inl ⟨h,h2⟩
          . exact .inr rfl
  . refine hgo ?_ hG (by omega) fun e=>?_
    . unfold fB;simp only[hc1,hc2,ae];by_cases h1:(i:Int)∈zn S
      . rw[if_neg (by simp[h1])];simp only[ae];rw[if_neg (by simp)]
      . rw[if_pos (by simp[h1])];simp only[ae];rw[if_neg (by
         have:(j:Int)∈zn S:=aN fun h2=>hc ⟨h1,h2⟩
         simp[this])]
    . rw[hm,aL,List.mem_singleton];constructor
      . exact fun h=>⟨.inl h.1,h.2⟩
      . rintro⟨h|rfl,h2⟩
        . exact⟨h,h2⟩
        . exact absurd h2 hc
theorem PG.Fk{γ:Type}(h:PG n R es out nm)(hn:n<=1000){S:List Nat}(hS:S.length<=1000)(hR:∀i j,R i j=true->i≠j)(kk:((List (bQ×Bool))×Int×(List (bQ×Bool))×(List (Int×(List Int)))×(List (Int×(List Int))))->Option γ){r:γ}
 (hk:∀es2 out2 inn2,PG n (wo R S) es2 out2 inn2->kk (es,(n:Int),es2,out2,inn2)=some r):nh (zn S) (n:Int) es out nm kk=some r:=by
 obtain⟨L,hG,hL,h3⟩:=h.ex
 unfold nh ua
 rw[if_neg (by omega)]
 simp only[ae]
 rw[if_neg (by simp;omega)]
 simp only[ae]
 have hkeys:List.map (fun e:bQ×Bool=>e.1) es=L:=by rw[hG.es,List.map_map];exact List.map_id' L
 rw[hkeys]
 exact B9 ⟨L,List.Perm.refl _⟩ fun p hp=>J9 hS hR kk hL hG.nd h3 _ rfl hk p [] [] [] [] [] hp GR.nil (Nat.zero_le _) fun e=>by simp
end
end G
end
section
open G
namespace G
theorem Ei{a b:List Nat}(h:a.Perm b)(ha:a.Pairwise (· < ·))(hb:b.Pairwise (· < ·)):a=b:=
 List.Perm.eq_of_pairwise (le:=(· <= ·)) (fun x y _ _ h1 h2=>Nat.le_antisymm h1 h2) (ha.imp Nat.le_of_lt) (hb.imp Nat.le_of_lt) h
theorem Oz{w:Nat}:∀{l:List Nat},l.Pairwise (· < ·)->∀{h:Nat} (hh:h<l.length),l[h]<w↔h<(l.filter fun x=>decide (x<w)).length
 |[],_,_,hh=>absurd hh (Nat.not_lt_zero _)
 |x::l,hs,h,hh=>by
  obtain⟨h1,h2⟩:=List.pairwise_cons.1 hs;rw[List.filter_cons];by_cases hx:x<w
  . rw[if_pos (aG hx),bH]
    cases h with
    |zero=>simp[hx]
    |succ h=>rw[List.getElem_cons_succ,Oz h2 (by simpa using hh)];omega
  . rw[if_neg (by simpa using hx)];have:(l.filter fun x=>decide (x<w))=[]:=by
     rw[List.filter_eq_nil_iff];intro y hy;have:=h1 y hy;simp;omega
    rw[this]
    cases h with
    |zero=>simp;omega
    |succ h=>
     rw[List.getElem_cons_succ]
     have:=h1 _ (az (by simpa using hh:h<l.length))
     simp;omega
def AJ(l:List Nat)(w:Nat):Nat:=(l.filter fun x=>decide (x<w)).length
theorem OU(l:List Nat)(w:Nat):AJ l w<=l.length:=bt _ _
theorem ac5{l:List Nat}(hs:l.Pairwise (· < ·))(w:Nat)(hn:l.length<=1000):∃b,gv (zn l) (w:Int)=some ((AJ l w:Int),b):=by
 have hp:=OU l w;have key:∃r,Iter (iw (zn l) (w:Int)) ((0:Int),((zn l).length:Int))=some r/\r=(AJ l w:Int):=by
  refine cn (fun m s=>∃i j:Nat,s=((i:Int),(j:Int))/\i<=AJ l w/\AJ l w<=j/\j<=l.length/\m=j-i) (fun r=>r=(AJ l w:Int)) (fun m s hI=>?_) l.length _ ⟨0,l.length,by rw[cN];rfl,Nat.zero_le _,hp,Nat.le_refl _,by omega⟩;obtain⟨i,j,rfl,h1,h2,h3,rfl⟩:=hI;unfold iw;by_cases hij:i<j
  . rw[if_pos (by simp only;omega)];simp only;rw[Sf (k:=i+j) (by omega) (by omega)];have hm:(i+j)/2<l.length:=by omega
    rw[Aa hm];have hlt:=Oz (w:=w) hs hm;have hlt:l[(i+j)/2]<w↔(i+j)/2<AJ l w:=hlt;have hless:dy ((l[(i+j)/2]:Nat):Int) (w:Int)=some (decide (l[(i+j)/2]<w)):=by
     unfold dy iX;simp
    simp only[ae,hless];by_cases hc:l[(i+j)/2]<w
    . rw[aG hc,if_pos rfl,df hm (by omega)];exact .inl ⟨_,_,rfl,by omega,(i+j)/2+1,j,rfl,by omega,h2,h3,rfl⟩
    . rw[decide_eq_false hc,if_neg (by simp)];exact .inl ⟨_,_,rfl,by omega,i,(i+j)/2,rfl,h1,by omega,by omega,rfl⟩
  . rw[if_neg (by simp only;omega)];exact .inr ⟨_,rfl,by simp only;omega⟩
 obtain⟨r,e,rfl⟩:=key;unfold gv;rw[e];simp only[ae];split
 . rename_i hlt;rw[cN]at hlt;rw[Aa (by omega)];simp only[ae];split
   . exact⟨_,rfl⟩
   . unfold sn;simp
 . exact⟨_,rfl⟩
theorem Qd{l:List Nat}(hs:l.Pairwise (· < ·)){w:Nat}(hw:w ∉ l):(l.take (AJ l w)++([w]++l.drop (AJ l w))).Pairwise (· < ·):=by
 have hp:=OU l w;rw[List.pairwise_append];refine⟨hs.take,?_,fun a ha b hb=>?_⟩
 . rw[List.singleton_append,List.pairwise_cons];refine⟨fun a ha=>?_,hs.drop⟩;obtain⟨i,hi,rfl⟩:=bC.1 ha;rw[bg]at hi;rw[List.getElem_drop];have:=Oz (w:=w) hs (show AJ l w+i<l.length by omega);have h2:¬ l[AJ l w+i]<w:=fun h=>by have:=this.1 h;unfold AJ at this;omega
   have h3:l[AJ l w+i]≠w:=fun e=>hw (by rw[<- e];exact az _)
   omega
 . obtain⟨i,hi,rfl⟩:=bC.1 ha;rw[aJ]at hi;have h1:l[i]<w:=(Oz hs (by omega)).2 (by unfold AJ at hi;omega);rw[List.getElem_take];rw[List.singleton_append]at hb;rcases aV.1 hb with rfl|hb
   . exact h1
   . obtain⟨j,hj,rfl⟩:=bC.1 hb;rw[bg]at hj;rw[List.getElem_drop];exact aQ.1 hs _ _ _ _ (by omega)
theorem Xc{l:List Nat}{w x:Nat}:x∈l.take (AJ l w)++([w]++l.drop (AJ l w))↔x=w\/x∈l:=by
 rw[aL,aL,List.mem_singleton]
 conv=>rhs;rw[<- List.take_append_drop (AJ l w) l,aL]
 exact⟨fun h=>by rcases h with h|h|h<;>simp[h],fun h=>by rcases h with h|h|h<;>simp[h]⟩
theorem UD{l:List Nat}(hs:l.Pairwise (· < ·)){w:Nat}(hw:w ∉ l)(hn:l.length<=1000){T:List Nat}(hT:T.Pairwise (· < ·))(hm:∀x,x∈T↔x=w\/x∈l):kC (AJ l w:Int) [(w:Int)] (zn l)=some (zn T):=by
 have hp:=OU l w;unfold kC Aw;rw[if_pos ⟨by omega,by rw[cN];omega,by simp,by rw[cN];simp;omega⟩,aP,Uw,aa2];congr 1;have e:T=l.take (AJ l w)++([w]++l.drop (AJ l w)):=by
  have h2:=Qd hs hw;refine Ei ((List.perm_ext_iff_of_nodup (hT.imp fun h e=>by omega) (h2.imp fun h e=>by omega)).2 fun x=>?_) hT h2;rw[hm,Xc]
 rw[e,ql,ql];rfl
def rM(R:Nat->Nat->Bool)(K:List Nat)(x:Nat):Nat:=(K.filter fun u=>R u x).length
def nQ(R:Nat->Nat->Bool):Nat->List Nat->List Nat->List Nat×List Nat
 |0,K,out=>(K,out)
 |m+1,K,out=>match K.find? fun x=>decide (rM R K x=0)with
  |none=>(K,out)
  |some v=>nQ R m (K.filter fun x=>decide (x≠v)) (out++[v])
theorem AH{K:List Nat}(hn:K.Nodup){v:Nat}(hv:v∈K):K.Perm (v::K.filter fun x=>decide (x≠v)):=by
 refine(List.perm_ext_iff_of_nodup hn (List.nodup_cons.2 ⟨by simp,List.Pairwise.filter _ hn⟩)).2 fun x=>?_
 rw[aV,aR,ax];by_cases e:x=v
 . subst e;simp[hv]
 . simp[e]
theorem Zx{R:Nat->Nat->Bool}{K:List Nat}(hn:K.Nodup){v:Nat}(hv:v∈K)(x:Nat):rM R K x=rM R (K.filter fun x=>decide (x≠v)) x+if R v x=true then 1 else 0:=by
 unfold rM;rw[((AH hn hv).filter _).length_eq,List.filter_cons];split<;>simp
theorem abE(R:Nat->Nat->Bool)(K:List Nat)(x:Nat):rM R K x<=K.length:=bt _ _
theorem FI{R:Nat->Nat->Bool}{K:List Nat}{x:Nat}:rM R K x=0↔∀u∈K,R u x=false:=by
 unfold rM;rw[List.length_eq_zero_iff,List.filter_eq_nil_iff];simp
section
variable {n:Nat}{R:Nat->Nat->Bool}{es:List (bQ×Bool)}{out nm:List (Int×List Int)}
theorem ZQ{q:Nat->Bool}{K:List Nat}(hK:K=(List.range n).filter q)(k:Nat):((ins R n k).filter fun u=>decide (u∈K)).length=rM R K k:=by
 unfold ins rM;rw[List.filter_filter]
 conv=>rhs;rw[hK]
 rw[List.filter_filter];congr 1;refine bJ fun u hu=>?_
 have:decide (u∈K)=q u:=by
  rw[hK,Bool.eq_iff_iff,ax,ia];have:=List.mem_range.1 hu;simp[this]
 rw[this,Bool.and_comm]
theorem ZB(h:PG n R es out nm)(hn:n<50){q:Nat->Bool}{K:List Nat}(hK:K=(List.range n).filter q){k:Nat}(hk:k∈K)(f:Nat->Int)(hf:f k=0):
 vh (n:Int) es out nm (k:Int) (mk K f)=some (.inl (mk K (Zc f k (rM R K k)))):=by
 have hkn:k<n:=by rw[hK]at hk;exact(ia.1 hk).1
 unfold vh
 rw[h.In hn hkn]
 simp only[ae]
 have hl:(ins R n k).length<=n:=la n fun u=>R u k
 refine cu (f:=vi (k:Int) (zn (ins R n k))) (ins R n k).length (fun t=>((t:Int),mk K (Zc f k (((ins R n k).take t).filter fun u=>decide (u∈K)).length))) _ (fun t ht=>?_) ?_ ?_
 . unfold vi
   rw[if_pos (by rw[cN];omega),Aa ht]
   simp only[ae,Lf,df ht (by omega)]
   have htk:=aB ht
   have hle:(((ins R n k).take t).filter fun u=>decide (u∈K)).length<=n:=Nat.le_trans (bt _ _) (by rw[aJ];omega)
   by_cases hu:(ins R n k)[t]∈K
   . rw[if_pos hu,if_pos (by rfl),if_pos hk,mR (by rfl)]
     simp only[ae,Option.getD_some]
     rw[Xz hk]
     refine congrArg (fun x=>some (Sum.inl (_,x))) (mk_congr fun x _=>?_)
     unfold Zc
     by_cases e:x=k
     . rw[if_pos e,if_pos e,if_pos rfl,fm (by omega) (by omega),htk,List.filter_append,ak]
       simp[hu]
     . rw[if_neg e,if_neg e,if_neg e]
   . rw[if_neg hu,if_neg (by simp)]
     refine congrArg (fun x=>some (Sum.inl (_,x))) (mk_congr fun x _=>?_)
     rw[htk,List.filter_append]
     simp[hu]
 . unfold vi
   rw[if_neg (by rw[cN];omega),bh,ZQ hK]
 . refine congrArg (fun x=>((0:Int),x)) (mk_congr fun x _=>?_)
   unfold Zc
   split
   . rename_i e;rw[e,hf];simp
   . rfl
theorem WT(h:PG n R es out nm)(hn:n<50){q:Nat->Bool}{K:List Nat}(hK:K=(List.range n).filter q):∀(p done:List Int),(done++p).Perm (zn K)->
 pT (vh (n:Int) es out nm) yS p (mk K fun x=>if(x:Int)∈done then(rM R K x:Int)else 0)=some (mk K fun x=>(rM R K x:Int))
 |[],done,hp=>by
  rw[aK]at hp;unfold pT yS;refine congrArg some (mk_congr fun x hx=>?_);rw[if_pos (hp.mem_iff.2 (rK.2 hx))]
 |x::p,done,hp=>by
  obtain⟨k,hk,rfl⟩:=GW.1 (hp.mem_iff.1 (by simp:x∈done++x::p));have hKn:K.Nodup:=by rw[hK];exact nV _ _
  have hnd:=(hp.nodup_iff).2 (Q9 hKn);have hkd:(k:Int) ∉ done:=fun hd=>(List.nodup_append.1 hnd).2.2 _ hd _ (ar ..) rfl
  unfold pT;rw[ZB h hn hK hk _ (if_neg hkd)];simp only[ae];rw[<- WT h hn hK p (done++[(k:Int)]) (by rw[aA];exact hp)];refine congrArg _ (mk_congr fun y _=>?_);unfold Zc;by_cases e:y=k
  . subst e;rw[if_pos rfl,if_pos (by simp)]
  . rw[if_neg e];have:((y:Int)∈done++[(k:Int)])↔(y:Int)∈done:=by simp;omega
    simp only[this]
theorem ZX{S:List Nat}(hS:S.length<=1000)(hn:n<50):Iter (rG (zn S) (n:Int)) ((0:Int),([]:List (Int×Int)))=some (mk ((List.range n).filter fun x=>decide (x ∉ S)) fun _=>0):=by
 refine rO (f:=rG (zn S) (n:Int)) n (fun x=>decide (x ∉ S)) (fun k acc=>((k:Int),mk acc fun _=>0)) _ (fun k hk=>?_) ?_ rfl
 . unfold rG;rw[if_pos (by simp only;omega),rN _ _ (by rw[cN];omega)];simp only[ae,df hk (by omega),rK];by_cases h:k∈S
   . rw[if_neg (by simp[h]),if_neg (by simp[h]),aK]
   . rw[if_pos (by simp[h]),if_pos (by simp[h]),ab9 (fun hm=>by have:=(ia.1 hm).1;omega) rfl]
 . unfold rG;rw[if_neg (by simp)]
theorem Yb(hn:n<50){q:Nat->Bool}{K:List Nat}(hK:K=(List.range n).filter q)(f:Nat->Int):Iter (rH (mk K f) (n:Int)) ((0:Int),([]:List Int))=some (zn (K.filter fun x=>decide (f x=0))):=by
 have e:(K.filter fun x=>decide (f x=0))=(List.range n).filter fun x=>decide (x∈K)&&decide (f x=0):=by
  conv=>lhs;rw[hK]
  rw[List.filter_filter];refine bJ fun u hu=>?_
  have:decide (u∈K)=q u:=by
   rw[hK,Bool.eq_iff_iff,ax,ia];have:=List.mem_range.1 hu;simp[this]
  rw[this,Bool.and_comm]
 rw[e];refine rO (f:=rH (mk K f) (n:Int)) n (fun x=>decide (x∈K)&&decide (f x=0)) (fun k acc=>((k:Int),zn acc)) _ (fun k hk=>?_) ?_ rfl
 . unfold rH;rw[if_pos (by simp only;omega)];simp only[Lf,df hk (by omega)];by_cases h:k∈K
   . rw[if_pos h];simp only[Option.isSome_some,if_true,ae,Option.getD_some];by_cases h2:f k=0
     . rw[if_pos (by simp[h2]),dA (by rw[cN];have:=la k fun x=>decide (x∈K)&&decide (f x=0);simp;omega)];simp only[ae];rw[if_pos (by simp[h,h2]),ql];rfl
     . rw[if_neg (by simp[h2]),if_neg (by simp[h2]),aK]
   . rw[if_neg h];simp[h]
 . unfold rH;rw[if_neg (by simp)]
def dg(R:Nat->Nat->Bool)(K W:List Nat)(x:Nat):Int:=(rM R K x:Int)-if x∈W then 1 else 0
theorem Yj(hn:n<50){q:Nat->Bool}{K:List Nat}(hK:K=(List.range n).filter q){v:Nat}(hv:v∈K)(y23:List Int):
 Iter (rJ y23 (zn (outs R n v))) ((0:Int),mk (K.filter fun x=>decide (x≠v)) (fun x=>(rM R K x:Int)),zn ((K.filter fun x=>decide (x≠v)).filter fun x=>decide ((rM R K x:Int)=0)))=
  some (.inl (mk (K.filter fun x=>decide (x≠v)) (fun x=>(rM R (K.filter fun x=>decide (x≠v)) x:Int)),y23,zn ((K.filter fun x=>decide (x≠v)).filter fun x=>decide ((rM R (K.filter fun x=>decide (x≠v)) x:Int)=0)))):=by
 have hKn:K.Nodup:=by rw[hK];exact nV _ _
 have hKl:K.length<=n:=by rw[hK];exact la _ _
 have hKs:K.Pairwise (· < ·):=by rw[hK];exact yb _ _
 have hlast:∀x∈K.filter (fun x=>decide (x≠v)),dg R K (outs R n v) x=(rM R (K.filter fun x=>decide (x≠v)) x:Int):=fun x hx=>by
  have hxn:x<n:=by
   have:=(aR.1 hx).1;rw[hK]at this;exact(ia.1 this).1
  unfold dg;rw[Zx hKn hv x];have:x∈outs R n v↔R v x=true:=by unfold outs;rw[ia];simp[hxn]
  simp only[this];split<;>omega
 generalize hK':(K.filter fun x=>decide (x≠v))=K' at*
 have hKs':K'.Pairwise (· < ·):=by rw[<- hK'];exact hKs.filter _
 have hKl':K'.length<=n:=by rw[<- hK'];exact Nat.le_trans (bt _ _) hKl
 have hWn:(outs R n v).Nodup:=nV _ _
 have hWl:(outs R n v).length<=n:=la _ _
 have hWR:∀x∈outs R n v,R v x=true:=fun x hx=>(ia.1 hx).2
 generalize outs R n v=W at*
 refine cu (f:=rJ y23 (zn W)) W.length (fun t=>((t:Int),mk K' (dg R K (W.take t)),zn (K'.filter fun x=>decide (dg R K (W.take t) x=0)))) _ (fun t ht=>?_) ?_ ?_
 . unfold rJ
   rw[if_pos (by rw[cN];omega),Aa ht]
   have htk:=aB ht
   have hnt:W[t] ∉ W.take t:=fun hm=>by
    obtain⟨i,hi,e⟩:=bC.1 hm;rw[aJ]at hi;rw[List.getElem_take]at e;have:=(List.nodup_iff_pairwise_ne.1 hWn);exact aQ.1 this i t (by omega) ht (by omega) e
   have hsame:∀x,x≠W[t]->dg R K (W.take (t+1)) x=dg R K (W.take t) x:=fun x hx=>by
    unfold dg;have:x∈W.take (t+1)↔x∈W.take t:=by rw[htk,aL,List.mem_singleton];simp[hx]
    simp only[this]
   simp only[ae,Lf,df ht (by omega)]
   have hfin:∀(f:Nat->Int) (rd:List Int),mk K' f=mk K' (dg R K (W.take (t+1)))->rd=zn (K'.filter fun x=>decide (dg R K (W.take (t+1)) x=0))->(some (Sum.inl (((t+1:Nat):Int),mk K' f,rd)):Option ((Int×(List (Int×Int))×(List Int))⊕(((List (Int×Int))×(List Int)×(List Int))⊕((List (Int×Int))×(List Int)))))=some (Sum.inl (((t+1:Nat):Int),mk K' (dg R K (W.take (t+1))),zn (K'.filter fun x=>decide (dg R K (W.take (t+1)) x=0)))):=fun f rd e1 e2=>by rw[e1,e2]
   by_cases hw:W[t]∈K'
   . rw[if_pos hw,if_neg (by simp)]
     have hc:=abE R K W[t]
     have hc1:1<=rM R K W[t]:=Nat.pos_of_ne_zero fun h0=>by
      have:=FI.1 h0 v hv;rw[hWR _ (az ht)]at this;cases this
     have hd0:dg R K (W.take t) W[t]=(rM R K W[t]:Int):=by unfold dg;rw[if_neg hnt];omega
     have hd1:dg R K (W.take (t+1)) W[t]=(rM R K W[t]:Int)-1:=by unfold dg;rw[if_pos (by rw[htk,aL,List.mem_singleton];exact .inr rfl)]
     simp only[Option.getD_some]
     rw[Xz hw,Lf,if_pos hw,hd0,fm (by omega) (by omega)]
     have hmk:mk K' (Zc (dg R K (W.take t)) W[t] ((rM R K W[t]:Int)-1))=mk K' (dg R K (W.take (t+1))):=mk_congr fun x _=>by
      unfold Zc;split
      . rename_i e;rw[e,hd1]
      . rename_i e;rw[hsame x e]
     have hup:Zc (dg R K (W.take t)) W[t] ((rM R K W[t]:Int)-1) W[t]=(rM R K W[t]:Int)-1:=if_pos rfl
     simp only[Option.getD_some,hup]
     by_cases hz:(rM R K W[t]:Int)-1=0
     . rw[if_pos hz]
       have hrs:(K'.filter fun x=>decide (dg R K (W.take t) x=0)).Pairwise (· < ·):=hKs'.filter _
       have hrl:(K'.filter fun x=>decide (dg R K (W.take t) x=0)).length<=1000:=Nat.le_trans (bt _ _) (by omega)
       obtain⟨b,hb⟩:=ac5 hrs W[t] hrl
       rw[hb]
       simp only[ae]
       rw[UD hrs (fun hm=>by
        have:=aF (aR.1 hm).2;omega) hrl (T:=K'.filter fun x=>decide (dg R K (W.take (t+1)) x=0)) (hKs'.filter _) fun x=>by
         rw[aR,aR,ax,ax];by_cases e:x=W[t]
         . subst e;simp only[hw,hd1,hz,true_or,and_self]
         . rw[hsame x e];simp[e]]
       simp only[ae]
       exact hfin _ _ hmk rfl
     . rw[if_neg hz]
       refine hfin _ _ hmk (congrArg zn (bJ fun x _=>?_))
       by_cases e:x=W[t]
       . subst e
         rw[decide_eq_false (by omega),decide_eq_false (by omega)]
       . rw[hsame x e]
   . rw[if_neg hw,if_pos (by simp)]
     have hne:∀x∈K',x≠W[t]:=fun x hx e=>hw (by rw[<- e];exact hx)
     refine hfin _ _ (mk_congr fun x hx=>(hsame x (hne x hx)).symm) (congrArg zn (bJ fun x hx=>?_))
     rw[hsame x (hne x hx)]
 . unfold rJ
   rw[if_neg (by rw[cN];omega),bh,mk_congr hlast]
   refine congrArg (fun x=>some (Sum.inr (Sum.inl (_,_,zn x)))) (bJ fun x hx=>?_)
   rw[hlast x hx]
 . have:∀x,dg R K (W.take 0) x=(rM R K x:Int):=fun x=>by unfold dg;simp
   show(((0:Int),_,_):Int×List (Int×Int)×List Int)=((0:Int),_,_)
   rw[mk_congr fun x (_:x∈K')=>this x,bJ (p:=fun x=>decide (dg R K (W.take 0) x=0)) fun x _=>by rw[this x]]
theorem TX(h:PG n R es out nm)(hn:n<50):∀(m:Nat) (q:Nat->Bool) (K o:List Nat),K=(List.range n).filter q->K.length<=m->o.length+m<=1000->
 Iter (rI (n:Int) es out nm) (mk K (fun x=>(rM R K x:Int)),zn o,zn (K.filter fun x=>decide ((rM R K x:Int)=0)))=some (mk (nQ R m K o).1 (fun x=>(rM R (nQ R m K o).1 x:Int)),zn (nQ R m K o).2)
 |m,q,K,o,hK,hm,ho=>by
  have hf:∀(l:List Nat) (p:Nat->Bool),l.find? p=(l.filter p).head?:=fun l p=>by rw[List.head?_filter]
  have hpp:(fun x=>decide ((rM R K x:Int)=0))=fun x=>decide (rM R K x=0):=by
   funext x;rw[bp];omega
  cases hh:K.filter fun x=>decide ((rM R K x:Int)=0)with
  |nil=>
   have hk:nQ R m K o=(K,o):=by
    cases m with
    |zero=>rfl
    |succ m=>unfold nQ;rw[hf,<- hpp,hh];rfl
   rw[hk]
   refine nD ?_
   unfold rI
   rw[if_neg (by simp[zn])]
  |cons v rest=>
   have hvm:v∈K:=(aR.1 (by rw[hh];exact ar .. :v∈K.filter fun x=>decide ((rM R K x:Int)=0))).1
   have hKn:K.Nodup:=by rw[hK];exact nV _ _
   have hvn:v<n:=by rw[hK]at hvm;exact(ia.1 hvm).1
   cases m with
   |zero=>rw[List.length_eq_zero_iff.1 (Nat.le_zero.1 hm)]at hvm;cases hvm
   |succ m=>
    have hk:nQ R (m+1) K o=nQ R m (K.filter fun x=>decide (x≠v)) (o++[v]):=by
     conv=>lhs;unfold nQ
     rw[hf,<- hpp,hh];rfl
    have hrest:rest=(K.filter fun x=>decide (x≠v)).filter fun x=>decide ((rM R K x:Int)=0):=by
     have h1:(v::rest).Nodup:=by rw[<- hh];exact List.Pairwise.filter _ hKn
     have h2:=(List.nodup_cons.1 h1).1;have:(v::rest).filter (fun x=>decide (x≠v))=rest:=by
      rw[List.filter_cons,if_neg (by simp),List.filter_eq_self];intro x hx;simp only[ax];exact fun e=>h2 (by rw[<- e];exact hx)
     rw[<- this,<- hh,List.filter_filter,List.filter_filter];exact bJ fun x _=>Bool.and_comm _ _
    have hstep:rI (n:Int) es out nm (mk K (fun x=>(rM R K x:Int)),zn o,zn (v::rest))=some (.inl (mk (K.filter fun x=>decide (x≠v)) (fun x=>(rM R (K.filter fun x=>decide (x≠v)) x:Int)),zn (o++[v]),zn ((K.filter fun x=>decide (x≠v)).filter fun x=>decide ((rM R (K.filter fun x=>decide (x≠v)) x:Int)=0)))):=by
     unfold rI;have hx:idx (zn (v::rest)) 0=some (v:Int):=rfl;have hd:qY (zn (v::rest)) 1=some (zn rest):=by rw[E1 (by simp[zn];omega)];rfl
     rw[if_pos (by simp[zn])];simp only[hx,hd,ae];rw[dA (by rw[cN];simp;omega)];simp only[ae];rw[h.Out hn hvn];simp only[ae];rw[ab7,hrest,Yj hn hK hvm,ql];rfl
    rw[uz hstep,hk]
    exact TX h hn m (fun x=>q x&&decide (x≠v)) _ _ (by
     conv=>lhs;rw[hK]
     rw[List.filter_filter];exact bJ fun x _=>Bool.and_comm _ _) (by
     have:=(AH hKn hvm).length_eq;simp only[bH]at this;omega) (by simp;omega)
def K0(n:Nat)(S:List Nat):List Nat:=(List.range n).filter fun x=>decide (x ∉ S)
theorem Ns(h:PG n R es out nm)(hn:n<50){S:List Nat}(hS:S.length<=1000):
 wO (zn S) (n:Int) es out nm=some (zn (nQ R n (K0 n S) []).2,mk (nQ R n (K0 n S) []).1 fun x=>(rM R (nQ R n (K0 n S) []).1 x:Int)):=by
 have hK:K0 n S=(List.range n).filter fun x=>decide (x ∉ S):=rfl
 unfold wO gL
 simp only[ae]
 rw[ZX hS hn,<- hK]
 simp only[ae]
 rw[Z4,B9 (P:=fun p:List Int=>p.Perm (zn (K0 n S))) (r:=mk (K0 n S) fun x=>(rM R (K0 n S) x:Int)) ⟨_,List.Perm.refl _⟩ fun p hp=>by
  have:=WT h hn hK p [] hp;simpa using this]
 simp only[ae]
 rw[Yb hn hK]
 simp only[ae]
 have:=TX h hn n _ (K0 n S) [] hK (la _ _) (by simp;omega)
 rw[show zn []=[] from rfl]at this
 rw[this];rfl
end
end G
end
section
open G
namespace G
inductive TC(R:Nat->Nat->Bool):Nat->Nat->Prop where
 |one {i j:Nat} (h:R i j=true):TC R i j
 |cons {i k j:Nat} (h:R i k=true) (t:TC R k j):TC R i j
theorem TC.snoc{R:Nat->Nat->Bool}{i k j:Nat}(h:TC R i k)(hr:R k j=true):TC R i j:=by
 induction h with
 |one h=>exact .cons h (.one hr)
 |cons h _ ih=>exact .cons h (ih hr)
theorem TC.last{R:Nat->Nat->Bool}{i j:Nat}(h:TC R i j):R i j=true\/∃k,TC R i k/\R k j=true:=by
 induction h with
 |one h=>exact .inl h
 |cons h t ih=>
  rcases ih with h2|⟨k,h2,h3⟩
  . exact .inr ⟨_,.one h,h2⟩
  . exact .inr ⟨k,.cons h h2,h3⟩
theorem TC.fst{R:Nat->Nat->Bool}{i j:Nat}(h:TC R i j):∃k,R i k=true:=by cases h with|one h=>exact⟨_,h⟩|cons h _=>exact⟨_,h⟩
open Classical in
noncomputable def X8(R:Nat->Nat->Bool)(n v:Nat):List Nat:=(List.range n).filter fun t=>decide (TC R v t)
open Classical in
noncomputable def uw(R:Nat->Nat->Bool)(n:Nat)(S:List Nat):List Nat:=(List.range n).filter fun v=>decide (TC (wo R S) v v)
open Classical in
theorem OW{R:Nat->Nat->Bool}{n v t:Nat}:t∈X8 R n v↔t<n/\TC R v t:=by unfold X8;rw[ia,ax]
open Classical in
theorem zl{R:Nat->Nat->Bool}{n:Nat}{S:List Nat}{v:Nat}:v∈uw R n S↔v<n/\TC (wo R S) v v:=by unfold uw;rw[ia,ax]
theorem CD:∀(n:Nat) (T:List Nat),T.Nodup->(∀t∈T,t<n)->T.length<=n
 |0,T,_,h=>by
  cases T with
  |nil=>exact Nat.le_refl _
  |cons x T=>exact absurd (h x (ar ..)) (Nat.not_lt_zero _)
 |n+1,T,hn,h=>by
  by_cases hm:n∈T
  . rw[(AH hn hm).length_eq,bH];refine Nat.succ_le_succ (CD n _ (List.Pairwise.filter _ hn) fun t ht=>?_);obtain⟨h1,h2⟩:=aR.1 ht;have:=h t h1;have h2:=aF h2;omega
  . exact Nat.le_succ_of_le (CD n T hn fun t ht=>by
     have:=h t ht;have:t≠n:=fun e=>hm (by rw[<- e];exact ht)
     omega)
theorem aa3{x:List Int}{w:List Nat}(h:x.Perm (zn w)):∃a:List Nat,x=zn a/\a.Perm w:=by
 refine⟨x.map Int.toNat,?_,?_⟩
 . unfold zn;rw[List.map_map]
   conv=>lhs;rw[<- List.map_id x]
   refine List.map_congr_left fun y hy=>?_
   obtain⟨k,_,rfl⟩:=GW.1 (h.mem_iff.1 hy);simp
 . have:=h.map Int.toNat;unfold zn at this;rw[List.map_map]at this;have e:w.map (Int.toNat ∘ fun k:Nat=>(k:Int))=w:=by
    conv=>rhs;rw[<- List.map_id w]
    exact List.map_congr_left fun _ _=>by simp
   rw[e]at this;exact this
def TY(T:List Nat):List (Int×Bool):=T.map fun k:Nat=>((k:Int),true)
theorem TZ(T:List Nat)(k:Nat):((TY T).any fun p=>cX (k:Int) p.1)=decide (k∈T):=by
 rw[Bool.eq_iff_iff,bI,ax];unfold TY;constructor
 . rintro⟨p,hp,he⟩;obtain⟨j,hj,rfl⟩:=List.mem_map.1 hp;have:=(eO _ _).1 he;obtain rfl:k=j:=by simp only at this;omega
   exact hj
 . exact fun h=>⟨_,List.mem_map.2 ⟨k,h,rfl⟩,eO.refl _⟩
theorem Z5(T:List Nat)(k:Nat):(dJ cX (TY T) (k:Int)).getD false=decide (k∈T):=by
 cases h:dJ cX (TY T) (k:Int)with
 |none=>
  rw[AD,TZ]at h
  rw[h];rfl
 |some b=>
  have hm:=Nf eO h
  obtain⟨j,hj,e⟩:=List.mem_map.1 hm
  simp only[aE]at e
  obtain rfl:j=k:=by omega
  rw[<- e.2,aG hj];rfl
theorem Z6{T:List Nat}{k:Nat}(h:k ∉ T):lA cX (TY T) (k:Int) true=TY (T++[k]):=by
 unfold lA;rw[TZ,if_neg (by simp[h])];unfold TY;rw[aX];rfl
theorem UA(l:List Int)(h:l.length<=1000000):mn l=some l:=by
 unfold mn;rw[dA (by simp;omega)]
 cases l with
 |nil=>exact Et _
 |cons x l=>rfl
theorem M1{γ:Type}(kk:((List (Int×Bool))×(List Int))->Option γ)(a1:List (Int×Bool)):∀(p acc:List Int),acc.length+p.length<=1000->
 pT cE (dn kk) p (a1,acc)=kk (a1,acc++p)
 |[],acc,_=>by
  unfold pT dn;rw[aK];simp
 |x::p,acc,h=>by
  rw[bH]at h;have hs:cE (γ:=γ) x (a1,acc)=some (.inl (a1,acc++[x])):=by
   unfold cE fM;simp only;rw[dA (by simp;omega)];rfl
  unfold pT;rw[hs];simp only[ae];rw[M1 kk a1 p _ (by simp;omega),aA];rfl
theorem Mp{T:List Nat}(hT:T.Nodup){w:List Nat}(hw:T.Perm w)(hs:w.Pairwise (· < ·))(hn:w.length<50):∃z,dj (TY T)=some (z,zn w):=by
 refine⟨TY T,?_⟩;have hl:=hw.length_eq;unfold dj dN dk dx;have hk:(TY T).map (fun e=>e.1)=zn T:=by unfold TY zn;rw[List.map_map];rfl
 rw[hk];refine B9 ⟨_,List.Perm.refl _⟩ fun p hp=>?_
 have hpl:=hp.length_eq;rw[cN]at hpl;rw[M1 _ _ p [] (by simp;omega)];simp only[aY,Option.map_id'];obtain⟨r,e,h1,h2⟩:=QO.qO p (by omega);rw[e];simp only[ae];rw[DC (h1.trans (hp.trans (hw.map _))) h2 (DF hs)];rfl
section
variable {n:Nat}{R:Nat->Nat->Bool}{es:List (bQ×Bool)}{out nm:List (Int×List Int)}
theorem Wu(h:PG n R es out nm)(hn:n<50)(hb:∀i j,R i j=true->i<n/\j<n){v:Nat}(hv:v<n)(N:Int)(e2:List (bQ×Bool))(i2:List (Int×List Int)):oz (v:Int) N e2 out i2=some (zn (X8 R n v)):=by
 have hraw:∀{w:Nat},w<n->∃a:List Nat,(dJ cX out (w:Int)).getD []=zn a/\a.length<=n/\∀x,x∈a↔R w x=true:=fun{w} hw=>by
  obtain⟨a,h1,h2⟩:=aa3 (h.ady hw);refine⟨a,h1,by rw[h2.length_eq];exact la _ _,fun x=>?_⟩;rw[h2.mem_iff];unfold outs;rw[ia];exact⟨fun h=>h.2,fun h=>⟨(hb _ _ h).2,h⟩⟩
 obtain⟨a,ha,hal,ham⟩:=hraw hv;have hnn:n*(n+1)<=49*50:=Nat.mul_le_mul (by omega) (by omega);have key:∃r,Iter (p7 out) (([]:List (Int×Bool)),zn a)=some r/\∃T:List Nat,r=TY T/\T.Nodup/\∀t,t∈T↔TC R v t:=by
  refine cn (fun m s=>∃T Sk:List Nat,s=(TY T,zn Sk)/\T.Nodup/\(∀t∈T,t<n/\TC R v t)/\(∀t∈Sk,t<n/\TC R v t)/\(∀w,R v w=true->w∈T\/w∈Sk)/\(∀t∈T,∀w,R t w=true->w∈T\/w∈Sk)/\m=(n-T.length)*(n+1)+Sk.length/\m<=3000)
   (fun r=>∃T:List Nat,r=TY T/\T.Nodup/\∀t,t∈T↔TC R v t) (fun m s hI=>?_) ((n-0)*(n+1)+a.length) _ ⟨[],a,rfl,List.nodup_nil,by simp,fun t ht=>?_,fun w hw=>.inr ((ham w).2 hw),by simp,rfl,by simp;omega⟩
  . obtain⟨T,Sk,rfl,i1,i2,i3,i4,i5,rfl,i6⟩:=hI;unfold p7;rcases List.eq_nil_or_concat Sk with rfl|⟨Sk1,w,e⟩
    . rw[if_neg (by simp[zn])];refine .inr ⟨_,rfl,T,rfl,i1,fun t=>⟨fun ht=>(i2 t ht).2,fun ht=>?_⟩⟩;have clo:∀i t,TC R i t->(∀w,R i w=true->w∈T)->t∈T:=fun i t h=>by
       induction h with
       |one h=>exact fun hc=>hc _ h
       |cons h _ ih=>exact fun hc=>ih fun w hw=>by simpa using i5 _ (hc _ h) w hw
      exact clo v t ht fun w hw=>by simpa using i4 w hw
    . rw[List.concat_eq_append]at e;subst e;generalize Sk1=Sk at*
      have hl:(zn (Sk++[w])).length=Sk.length+1:=by rw[cN];simp
      rw[ak,bn]at i6 ⊢;rw[if_pos (by simp only[hl];omega)];simp only[hl];rw[fm (by omega) (by omega),xY 0 (k:=Sk.length) (by omega) (by rw[hl];omega)];have hg:(zn (Sk++[w])).getD Sk.length 0=(w:Int):=by rw[ql];simp[zn]
      rw[hg,AM (by rw[hl];omega)];have ht:(zn (Sk++[w])).take (((Sk.length+1:Nat):Int)-1).toNat=zn Sk:=by
       rw[show(((Sk.length+1:Nat):Int)-1).toNat=Sk.length by omega,Uw];simp
      rw[ht];simp only[ae,Z5];have hw:=i3 w (by simp);by_cases hm:w∈T
      . rw[if_pos (aG hm)];refine .inl ⟨_,_,rfl,?_,T,Sk,rfl,i1,i2,fun t ht=>i3 t (by simp[ht]),fun x hx=>?_,fun t ht x hx=>?_,rfl,by omega⟩
        . omega
        . rcases i4 x hx with e|e
          . exact .inl e
          . rcases aL.1 e with e|e
            . exact .inr e
            . rw[List.mem_singleton.1 e];exact .inl hm
        . rcases i5 t ht x hx with e|e
          . exact .inl e
          . rcases aL.1 e with e|e
            . exact .inr e
            . rw[List.mem_singleton.1 e];exact .inl hm
      . rw[if_neg (by simp[hm])];obtain⟨b,hb1,hb2,hb3⟩:=hraw hw.1;rw[hb1,dA (by rw[cN,cN];omega),<- ql];simp only[ae];rw[Z6 hm];have hnd:(T++[w]).Nodup:=by rw[List.nodup_append];exact⟨i1,by simp,fun x hx y hy=>by simp at hy;subst hy;exact fun e=>hm (by rw[<- e];exact hx)⟩
        have hlT:(T++[w]).length<=n:=CD n _ hnd fun t ht=>by
         rcases aL.1 ht with h|h
         . exact(i2 t h).1
         . rw[List.mem_singleton.1 h];exact hw.1
        rw[ak,bn]at hlT;have hmul:(n-T.length)*(n+1)=(n-(T.length+1))*(n+1)+(n+1):=by
         rw[show n-T.length=(n-(T.length+1))+1 by omega,bc,Nat.one_mul]
        refine .inl ⟨_,_,rfl,?_,T++[w],Sk++b,rfl,hnd,fun t ht=>?_,fun t ht=>?_,fun x hx=>?_,fun t ht x hx=>?_,rfl,?_⟩
        . rw[ak,ak,bn,hmul];omega
        . rcases aL.1 ht with h|h
          . exact i2 t h
          . rw[List.mem_singleton.1 h];exact hw
        . rcases aL.1 ht with h|h
          . exact i3 t (by simp[h])
          . have:=(hb3 t).1 h;exact⟨(hb _ _ this).2,hw.2.snoc this⟩
        . rcases i4 x hx with e|e
          . exact .inl (by simp[e])
          . rcases aL.1 e with e|e
            . exact .inr (by simp[e])
            . exact .inl (by simp[List.mem_singleton.1 e])
        . rcases aL.1 ht with h|h
          . rcases i5 t h x hx with e|e
            . exact .inl (by simp[e])
            . rcases aL.1 e with e|e
              . exact .inr (by simp[e])
              . exact .inl (by simp[List.mem_singleton.1 e])
          . rw[List.mem_singleton.1 h]at hx;exact .inr (by simp[(hb3 x).2 hx])
        . rw[ak,ak,bn];omega
  . exact⟨(hb _ _ ((ham t).1 ht)).2,.one ((ham t).1 ht)⟩
 obtain⟨r,hr,T,rfl,h1,h2⟩:=key;unfold oz;rw[ha,UA _ (by rw[cN];omega)];simp only[ae];rw[hr];unfold jC;simp only[ae];obtain⟨z,hz⟩:=Mp h1 (w:=X8 R n v) ((List.perm_ext_iff_of_nodup h1 (nV _ _)).2 fun x=>by
  rw[h2];refine Iff.trans ?_ OW.symm;refine⟨fun h=>⟨?_,h⟩,fun h=>h.2⟩;rcases h.last with h|⟨k,_,h⟩
  . exact(hb _ _ h).2
  . exact(hb _ _ h).2) (yb _ _) (Nat.lt_of_le_of_lt (la _ _) hn)
 rw[hz];rfl
theorem KX{C:Nat->Prop}(hC:∀x,C x->∃u,C u/\R u x=true):∀(m:Nat) (K o:List Nat),(∀x,C x->x∈K)->∀x,C x->x∈(nQ R m K o).1
 |0,K,o,h=>h
 |m+1,K,o,h=>by
  unfold nQ;split
  . exact h
  . rename_i v hv;refine KX hC m _ _ fun x hx=>aR.2 ⟨h x hx,aG fun e=>?_⟩
    subst e;have h0:=List.find?_some hv;have h0:=aF h0;obtain⟨u,hu,hr⟩:=hC _ hx;rw[FI.1 h0 u (h u hu)]at hr;cases hr
theorem A1{S:List Nat}{i j:Nat}(h:wo R S i j=true):R i j=true/\i ∉ S/\j ∉ S:=by
 unfold wo at h;simpa using h
theorem MN(hb:∀i j,R i j=true->i<n/\j<n){S:List Nat}{v:Nat}(h:TC (wo R S) v v)(m:Nat):v∈(nQ R m (K0 n S) []).1:=by
 refine KX (C:=fun x=>TC (wo R S) v x/\TC (wo R S) x v) (fun x hx=>?_) m _ _ (fun x hx=>?_) v ⟨h,h⟩
 . rcases hx.1.last with h1|⟨k,h1,h2⟩
   . exact⟨v,⟨h,h⟩,(A1 h1).1⟩
   . exact⟨k,⟨h1,.cons h2 hx.2⟩,(A1 h2).1⟩
 . obtain⟨k,hk⟩:=hx.2.fst;have:=A1 hk;unfold K0;exact ia.2 ⟨(hb _ _ this.1).1,aG this.2.1⟩
theorem UC(h:PG n R es out nm)(hn:n<50)(hb:∀i j,R i j=true->i<n/\j<n)(hR:∀i j,R i j=true->i≠j){S:List Nat}(hS:S.length<=1000):
 zH (zn S) (n:Int) es out nm=some (es,zn (uw R n S)):=by
 unfold zH
 rw[Ns h hn hS]
 simp only[ae]
 refine h.Fk (by omega) hS hR _ fun es2 out2 inn2 hG=>?_
 unfold gL
 simp only[ae]
 have hb2:∀i j,wo R S i j=true->i<n/\j<n:=fun i j hij=>hb _ _ (A1 hij).1
 refine rO n (fun v=>@decide (TC (wo R S) v v) (Classical.propDecidable _)) (fun k acc=>((k:Int),zn acc)) _ (fun k hk=>?_) ?_ rfl
 . unfold yR
   have hl:=la k fun v=>@decide (TC (wo R S) v v) (Classical.propDecidable _)
   rw[if_pos (by simp only;omega)]
   simp only[Lf,df hk (by omega)]
   rw[Wu hG hn hb2 hk]
   simp only[ae]
   rw[rN _ _ (by rw[cN];have:=la n fun t=>@decide (TC (wo R S) k t) (Classical.propDecidable _);unfold X8;omega)]
   simp only[ae,rK]
   have hm:k∈X8 (wo R S) n k↔TC (wo R S) k k:=by rw[OW];exact⟨fun h=>h.2,fun h=>⟨hk,h⟩⟩
   by_cases hc:TC (wo R S) k k
   . rw[if_pos (MN hb hc n)]
     simp only[Option.isSome_some,if_true,ae]
     rw[aG (hm.2 hc),if_pos rfl,dA (by rw[cN];simp;omega),if_pos (@decide_eq_true _ (Classical.propDecidable _) hc),ql];rfl
   . rw[decide_eq_false fun h=>hc (hm.1 h),if_neg fun e=>hc (@of_decide_eq_true _ (Classical.propDecidable _) e),aK]
     split
     . simp
     . simp
 . unfold yR
   rw[if_neg (by simp)];rfl
end
end G
end
section
open IntKind(i64)
open G
namespace G
theorem Kf{α:Type}{f:Int->Option (Int⊕Bool)}(l:List α)(p:α->Prop)[DecidablePred p](b:Bool)(hn:l.length<=1000000)
 (hf:∀s,f s=if s<(l.length:Int)then(idx l s).bind fun x=>if p x then some (.inr b)else some (.inl (i64.wrap (s+1)))else some (.inr (!b))):Iter f 0=some (if l.any (fun x=>decide (p x))=true then b else !b):=by
 have hK:=jj (f:=f) l (fun x=>decide (p x)) (fun k=>(k:Int)) (fun _=>b) (!b)
  (fun k h hb=>by rw[hf,if_pos (by omega),cC h];simp only[ae];rw[if_neg (of_decide_eq_false hb),df h (by omega)])
  (fun k h hb=>by rw[hf,if_pos (by omega),cC h];simp only[ae];rw[if_pos (aF hb)])
  (by rw[hf,if_neg (by omega)]) (s:=0) rfl
 rcases hK with⟨ha,he⟩|⟨k,h,hb,_,he⟩
 . rw[he,if_neg]
   rw[Bool.not_eq_true,List.any_eq_false]
   exact fun x hx=>by rw[ha x hx];simp
 . rw[he,if_pos]
   exact bI.2 ⟨_,az h,hb⟩
theorem Oo{f:Int->Option (Int⊕Bool)}{x:Int}(l:List Int)(hn:l.length<=1000000)(hf:∀s,f s=if s<(l.length:Int)then(idx l s).bind fun y=>if y=x then some (.inr true)else some (.inl (i64.wrap (s+1)))else some (.inr false)):Iter f 0=some (decide (x∈l)):=by
 rw[Kf l (fun y=>y=x) true hn hf];congr 1;by_cases h:x∈l
 . rw[if_pos (bI.2 ⟨x,h,aG rfl⟩),aG h]
 . rw[if_neg (fun e=>by obtain⟨y,hy,e⟩:=bI.1 e;exact h (by rw[<- aF e];exact hy)),decide_eq_false h];rfl
theorem ZO(l:List Int)(x:Int)(hn:l.length<=1000000):wc x l=some (decide (x∈l)):=Oo l hn fun _=>rfl
theorem JK(l:List Int)(x:Int)(hn:l.length<=1000000):qI x l=some (decide (x∈l)):=Oo l hn fun _=>rfl
theorem ZP(l:List Int)(x:Int)(hn:l.length<=1000000):zW x l=some (decide (x∈l)):=Oo l hn fun _=>rfl
structure RG(n:Nat)(R:Nat->Nat->Bool)(E:List bT):Prop where
 len:E.length<=2000
 mem:∀e,e∈E↔∃i j:Nat,i<n/\j<n/\R i j=true/\e=⟨(i:Int),(j:Int)⟩
section
variable {n:Nat}{R:Nat->Nat->Bool}{E:List bT}
def kp(S:List Nat)(e:bT):Bool:=decide (e.cp ∉ zn S)&&decide (e.to ∉ zn S)
theorem RG.Fk(h:RG n R E){S:List Nat}(hS:S.length<=1000):mX (zn S) (n:Int) E=some ((n:Int),E.filter (kp S))/\RG n (wo R S) (E.filter (kp S)):=by
 have hl:=h.len;refine⟨?_,Nat.le_trans (bt _ _) hl,fun e=>?_⟩
 . unfold mX;refine cu (f:=ni (zn S) E) E.length (fun k=>((k:Int),(n:Int),(E.take k).filter (kp S))) _ (fun k hk=>?_) ?_ (by simp)
   . unfold ni;have hfl:((E.take k).filter (kp S)).length<=k:=Nat.le_trans (bt _ _) (by rw[aJ];omega);rw[if_pos (by simp only;omega)];simp only[cC hk,ae,ZO (zn S) _ (by rw[cN];omega),df hk (by omega)];rw[aB hk,List.filter_append];by_cases h1:E[k].cp∈zn S
     . simp[h1,kp]
     . by_cases h2:E[k].to∈zn S
       . simp[h1,h2,kp]
       . simp only[h1,h2,decide_false,if_true,ae,Bool.not_false];rw[dA (by simp;omega)];simp[h1,h2,kp]
   . unfold ni;rw[if_neg (by simp),bh]
 . rw[aR,h.mem];unfold kp wo;constructor
   . rintro⟨⟨i,j,hi,hj,hr,rfl⟩,h2⟩;simp only[rK]at h2;exact⟨i,j,hi,hj,by rw[hr,Bool.true_and];exact h2,rfl⟩
   . rintro⟨i,j,hi,hj,hr,rfl⟩;rw[aq]at hr;refine⟨⟨i,j,hi,hj,hr.1,rfl⟩,?_⟩;simp only[rK];exact hr.2
def bl(n:Nat)(T:List Nat):List Bool:=(List.range n).map fun t=>decide (t∈T)
theorem RB(n:Nat)(T:List Nat):(bl n T).length=n:=by unfold bl;simp
theorem RA{T:List Nat}{t:Nat}(h:t<n):idx (bl n T) (t:Int)=some (decide (t∈T)):=by
 rw[cC (by rw[RB];exact h)];simp[bl]
theorem abB{T:List Nat}{t:Nat}:(bl n T).set t true=bl n (T++[t]):=by
 apply bN (by rw[bK,RB,RB]);intro i h1 h2;rw[List.getElem_set];unfold bl;by_cases e:t=i
 . subst e;simp
 . have:i≠t:=fun h=>e h.symm
   simp[e,this]
theorem aau(h:RG n R E){v:Nat}{T0:List Nat}(h0:T0.Nodup)(h1:∀t∈T0,t<n/\TC R v t):
 ∃r,Iter (sF (v:Int) E) (false,(0:Int),bl n T0)=some r/\∃(g:Bool) (T:List Nat),r=.inl (g,bl n T)/\T.Nodup/\(∀t∈T,t<n/\TC R v t)/\(g=true->T0.length<T.length)/\(g=false->T=T0/\∀i j,i<n->j<n->R i j=true->(i=v\/i∈T0)->j∈T0):=by
 have hl:=h.len
 refine cn (fun m s=>∃(k:Nat) (g:Bool) (T:List Nat),s=(g,(k:Int),bl n T)/\k<=E.length/\m=E.length-k/\T.Nodup/\(∀t∈T,t<n/\TC R v t)/\(g=true->T0.length<T.length)/\(g=false->T=T0/\∀i j:Nat,(⟨(i:Int),(j:Int)⟩:bT)∈E.take k->(i=v\/i∈T0)->j∈T0))
  _ (fun m s hI=>?_) E.length _ ⟨0,false,T0,rfl,Nat.zero_le _,rfl,h0,h1,fun e=>by simp at e,fun _=>⟨rfl,fun i j hm=>by simp at hm⟩⟩
 obtain⟨k,g,T,rfl,i1,rfl,i2,i3,i4,i5⟩:=hI
 unfold sF
 by_cases hk:k<E.length
 . rw[if_pos (by simp only;omega)]
   obtain⟨i,j,hi,hj,hr,he⟩:=(h.mem _).1 (az hk)
   have hvi:((i:Int)=(v:Int))↔i=v:=by omega
   simp only[cC hk,he,ae,RA hi,RA hj,df hk (by omega),aP,abB,hvi]
   have hcond:(if i=v then some (!decide (j∈T))else if decide (i∈T)=true then some (!decide (j∈T))else some false)=some (decide ((i=v\/i∈T)/\j ∉ T)):=by
    by_cases a:i=v
    . simp[a]
    . by_cases b:i∈T<;>simp[a,b]
   rw[hcond]
   simp only[ae]
   have htk:=aB hk
   by_cases hc:(i=v\/i∈T)/\j ∉ T
   . rw[if_pos (aG hc)]
     refine .inl ⟨_,_,rfl,by omega,k+1,true,T++[j],rfl,hk,rfl,?_,fun t ht=>?_,fun _=>?_,fun e=>by cases e⟩
     . rw[List.nodup_append];exact⟨i2,by simp,fun x hx y hy=>by simp at hy;subst hy;exact fun e=>hc.2 (by rw[<- e];exact hx)⟩
     . rcases aL.1 ht with ht|ht
       . exact i3 t ht
       . rw[List.mem_singleton.1 ht]
         refine⟨hj,?_⟩
         rcases hc.1 with rfl|hc
         . exact .one hr
         . exact(i3 i hc).2.snoc hr
     . rw[ak,bn]
       cases g with
       |true=>have:=i4 rfl;omega
       |false=>rw[(i5 rfl).1];omega
   . rw[if_neg (by simpa using hc)]
     refine .inl ⟨_,_,rfl,by omega,k+1,g,T,rfl,hk,rfl,i2,i3,i4,fun e=>?_⟩
     obtain⟨rfl,i6⟩:=i5 e
     refine⟨rfl,fun a b hm hab=>?_⟩
     rw[htk,aL,List.mem_singleton,he]at hm
     rcases hm with hm|hm
     . exact i6 a b hm hab
     . simp only[bT.mk.injEq]at hm
       obtain rfl:a=i:=by omega
       obtain rfl:b=j:=by omega
       exact aN fun hn=>hc ⟨hab,hn⟩
 . rw[if_neg (by simp only;omega)]
   refine .inr ⟨_,rfl,g,T,rfl,i2,i3,i4,fun e=>⟨(i5 e).1,fun i j hi hj hr hor=>(i5 e).2 i j ?_ hor⟩⟩
   rw[bF (by omega)]
   exact(h.mem _).2 ⟨i,j,hi,hj,hr,rfl⟩
theorem QK(h:RG n R E)(hb:∀i j,R i j=true->i<n/\j<n)(hn:n<50)(v:Nat):r9 (v:Int) (n:Int) E=some (zn (X8 R n v)):=by
 have key:∃r,Iter (sE (v:Int) E) (true,bl n [])=some r/\∃T:List Nat,r=bl n T/\∀t,t∈T↔TC R v t:=by
  refine cn (fun m s=>∃(g:Bool) (T:List Nat),s=(g,bl n T)/\T.Nodup/\(∀t∈T,t<n/\TC R v t)/\m=2*(n-T.length)+(if g=true then 1 else 0)/\(g=false->∀i j,i<n->j<n->R i j=true->(i=v\/i∈T)->j∈T)) _ (fun m s hI=>?_) _ _ ⟨true,[],rfl,List.nodup_nil,by simp,rfl,fun e=>by cases e⟩;obtain⟨g,T,rfl,i1,i2,rfl,i3⟩:=hI;unfold sE
  cases g with
  |true=>
   rw[if_pos rfl]
   obtain⟨r,hr,g',T',rfl,j1,j2,j3,j4⟩:=aau h i1 i2
   refine .inl ⟨_,_,hr,?_,g',T',rfl,j1,j2,rfl,fun e=>?_⟩
   . have:=CD n T' j1 fun t ht=>(j2 t ht).1
     cases g' with
     |true=>have:=j3 rfl;simp;omega
     |false=>rw[(j4 rfl).1];simp
   . rw[(j4 e).1];exact(j4 e).2
  |false=>
   rw[if_neg (by simp)]
   refine .inr ⟨_,rfl,T,rfl,fun t=>⟨fun ht=>(i2 t ht).2,fun ht=>?_⟩⟩
   have clo:∀i t,TC R i t->(i=v\/i∈T)->t∈T:=fun i t h=>by
    induction h with
    |one h=>exact fun hor=>i3 rfl _ _ (hb _ _ h).1 (hb _ _ h).2 h hor
    |cons h _ ih=>exact fun hor=>ih (.inr (i3 rfl _ _ (hb _ _ h).1 (hb _ _ h).2 h hor))
   exact clo v t ht (.inl rfl)
 obtain⟨r,hr,T,rfl,hT⟩:=key;unfold r9;rw[mR (by omega)];simp only[ae];have e0:List.replicate (n:Int).toNat false=bl n []:=by
  apply bN (by simp[bl]);intro i h1 h2;simp[bl]
 rw[e0,hr];simp only[ae];have ef:X8 R n v=(List.range n).filter fun t=>decide (t∈T):=by
  unfold X8;refine bJ fun t _=>?_
  rw[bp,hT]
 rw[ef];refine rO (f:=oE (n:Int) (bl n T)) n (fun t=>decide (t∈T)) (fun k acc=>(zn acc,(k:Int))) _ (fun k hk=>?_) ?_ rfl
 . unfold oE;have:=la k fun t=>decide (t∈T)
   rw[if_pos (by simp only;omega)];simp only[RA hk,ae,df hk (by omega)];by_cases hm:k∈T
   . rw[if_pos (aG hm),dA (by rw[cN];simp;omega),if_pos (aG hm),ql];rfl
   . rw[if_neg (by simp[hm]),if_neg (by simp[hm]),aK]
 . unfold oE;rw[if_neg (by simp)]
theorem BB(h:RG n R E)(hn:n<50)(hb:∀i j,R i j=true->i<n/\j<n){S:List Nat}(hS:S.length<=1000):nL (zn S) (n:Int) E=some (zn (uw R n S)):=by
 obtain⟨h1,h2⟩:=h.Fk hS;unfold nL;rw[h1];simp only[ae];have hb2:∀i j,wo R S i j=true->i<n/\j<n:=fun i j hij=>hb _ _ (A1 hij).1
 refine rO (f:=nM ((n:Int),E.filter (kp S))) n (fun v=>@decide (TC (wo R S) v v) (Classical.propDecidable _)) (fun k acc=>(zn acc,(k:Int))) _ (fun k hk=>?_) ?_ rfl
 . unfold nM;have hl:=la k fun v=>@decide (TC (wo R S) v v) (Classical.propDecidable _)
   have hl2:=la n fun t=>@decide (TC (wo R S) k t) (Classical.propDecidable _)
   rw[if_pos (by simp only;omega)];simp only[QK h2 hb2 hn k,ae,df hk (by omega)];rw[JK _ _ (by rw[cN];unfold X8;omega)];simp only[ae,rK];have hm:k∈X8 (wo R S) n k↔TC (wo R S) k k:=by rw[OW];exact⟨fun h=>h.2,fun h=>⟨hk,h⟩⟩
   by_cases hc:TC (wo R S) k k
   . rw[aG (hm.2 hc),if_pos rfl,dA (by rw[cN];simp;omega),if_pos (@decide_eq_true _ (Classical.propDecidable _) hc),ql];rfl
   . rw[decide_eq_false fun h=>hc (hm.1 h),if_neg (by simp),if_neg fun e=>hc (@of_decide_eq_true _ (Classical.propDecidable _) e),aK]
 . unfold nM;rw[if_neg (by simp)];rfl
theorem VM(h:RG n R E)(hb:∀i j,R i j=true->i<n/\j<n)(i j:Nat)(N:Int):uK ⟨(i:Int),(j:Int)⟩ N E=some (R i j):=by
 have hl:=h.len;unfold uK;rw[Kf (f:=zq ⟨(i:Int),(j:Int)⟩ E) E (fun e=>e.cp=(i:Int)/\e.to=(j:Int)) true (by omega) fun s=>rfl];congr 1;have:(E.any fun e=>decide (e.cp=(i:Int)/\e.to=(j:Int)))=R i j:=by
  rw[Bool.eq_iff_iff,bI];constructor
  . rintro⟨e,he,hd⟩;obtain⟨a,b,_,_,hr,rfl⟩:=(h.mem e).1 he;have hd:=aF hd;obtain rfl:a=i:=by have:=hd.1;simp only at this;omega
    obtain rfl:b=j:=by have:=hd.2;simp only at this;omega
    exact hr
  . exact fun hr=>⟨⟨(i:Int),(j:Int)⟩,(h.mem _).2 ⟨i,j,(hb _ _ hr).1,(hb _ _ hr).2,hr,rfl⟩,aG ⟨rfl,rfl⟩⟩
 rw[this];cases R i j<;>rfl
theorem Yc(h:RG n R E)(hb:∀i j,R i j=true->i<n/\j<n)(hn:n<50)(v:Nat):wa (v:Int) (n:Int) E=some (zn (ins R n v)):=by
 unfold wa ins;refine rO (f:=r8 (v:Int) (n:Int) E) n (fun u=>R u v) (fun k acc=>(zn acc,(k:Int))) _ (fun k hk=>?_) ?_ rfl
 . unfold r8;have:=la k fun u=>R u v
   rw[if_pos (by simp only;omega)];simp only[VM h hb,ae,df hk (by omega)]
   cases hr:R k v with
   |true=>rw[if_pos rfl,dA (by rw[cN];simp;omega),if_pos rfl,ql];rfl
   |false=>rw[if_neg (by simp),if_neg (by simp),aK]
 . unfold r8;rw[if_neg (by simp)]
theorem ZJ(h:RG n R E)(hb:∀i j,R i j=true->i<n/\j<n)(hn:n<50)(v:Nat){o:List Nat}(ho:o.length<=1000):∃b,tC (v:Int) (zn o) (n:Int) E=some b/\(b=true↔∀u,R u v=true->u∈o):=by
 have hl:(ins R n v).length<=n:=la n fun u=>R u v
 unfold tC;rw[Yc h hb hn];simp only[ae];rw[Kf (f:=tM (zn o) (zn (ins R n v))) (zn (ins R n v)) (fun x=>x ∉ zn o) false (by rw[cN];omega) fun s=>by
  unfold tM;split
  . congr 1;funext x;rw[JK _ _ (by rw[cN];omega)];simp only[ae];by_cases hx:x∈zn o<;>simp[hx]
  . rfl]
 refine⟨_,rfl,?_⟩;by_cases hc:∀u,R u v=true->u∈o
 . rw[if_neg]
   . exact⟨fun _=>hc,fun _=>rfl⟩
   . rw[Bool.not_eq_true,List.any_eq_false];intro x hx;obtain⟨u,hu,rfl⟩:=GW.1 hx;simp only[rK,ax,Classical.not_not];exact hc u (ia.1 hu).2
 . rw[if_pos]
   . exact⟨fun h=>(by cases h),fun h=>absurd h hc⟩
   . rw[bI];obtain⟨u,hu⟩:=Classical.not_forall.1 hc;rw[Classical.not_imp]at hu;exact⟨(u:Int),rK.2 (ia.2 ⟨(hb _ _ hu.1).1,hu.1⟩),by simp only[rK];exact aG hu.2⟩
def left(n:Nat)(S o:List Nat):List Nat:=(List.range n).filter fun x=>decide (x ∉ S)&&decide (x ∉ o)
def nxt:Option Nat->Int
 |none=> -1
 |some v=>(v:Int)
theorem aav(h:RG n R E)(hb:∀i j,R i j=true->i<n/\j<n)(hn:n<50){S o:List Nat}(hS:S.length<=1000)(ho:o.length<=1000):
 Iter (lY (zn S) ((n:Int),E.filter (kp S)) (zn o)) ((-1:Int),false,(n:Int)-1)=some (nxt ((left n S o).find? fun x=>decide (rM R (left n S o) x=0)),!(left n S o).isEmpty):=by
 obtain⟨_,h2⟩:=h.Fk hS
 have hb2:∀i j,wo R S i j=true->i<n/\j<n:=fun i j hij=>hb _ _ (A1 hij).1
 have hfree:∀v,v∈left n S o->((∀u,wo R S u v=true->u∈o)↔rM R (left n S o) v=0):=fun v hv=>by
  rw[FI];have hvS:=(ia.1 hv).2;simp only[aq,ax]at hvS;constructor
  . intro hu u hul;obtain⟨h3,h4⟩:=ia.1 hul;simp only[aq,ax]at h4
    cases hr:R u v with
    |false=>rfl
    |true=>exact absurd (hu u (by unfold wo;simp[hr,h4.1,hvS.1])) h4.2
  . intro hu u hw;obtain⟨h3,h4,_⟩:=A1 hw;refine aN fun hno=>?_
    have:=hu u (ia.2 ⟨(hb _ _ h3).1,by simp[h4,hno]⟩);rw[h3]at this;cases this
 have hinl:∀v,v<n->(decide (v∈left n S o)=(decide (v ∉ S)&&decide (v ∉ o))):=fun v hv=>by
  rw[Bool.eq_iff_iff,ax];unfold left;rw[ia];simp[hv]
 have hend:(List.range n).find? (fun v=>decide (v∈left n S o)&&decide (rM R (left n S o) v=0))=(left n S o).find? (fun x=>decide (rM R (left n S o) x=0)):=by
  rw[<- List.head?_filter,<- List.head?_filter];refine congrArg List.head? ?_;show _=((List.range n).filter fun x=>decide (x ∉ S)&&decide (x ∉ o)).filter fun x=>decide (rM R (left n S o) x=0)
  rw[List.filter_filter];refine bJ fun v hv=>?_
  rw[hinl v (List.mem_range.1 hv),Bool.and_comm]
 have hany:(List.range n).any (fun v=>decide (v∈left n S o))=!(left n S o).isEmpty:=by
  rw[Bool.eq_iff_iff,bI];constructor
  . rintro⟨v,_,hv⟩;have:=aF hv
    cases hl:left n S o with
    |nil=>rw[hl]at this;cases this
    |cons=>rfl
  . intro he
    cases hl:left n S o with
    |nil=>rw[hl]at he;cases he
    |cons v l=>
     have hv:v∈left n S o:=by rw[hl];exact ar ..
     exact⟨v,List.mem_range.2 (ia.1 hv).1,by rw[<- hl];exact aG hv⟩
 rw[<- hend,<- hany]
 refine cu (f:=lY (zn S) ((n:Int),E.filter (kp S)) (zn o)) n (fun t=>(nxt (((List.range n).drop (n-t)).find? fun v=>decide (v∈left n S o)&&decide (rM R (left n S o) v=0)),((List.range n).drop (n-t)).any (fun v=>decide (v∈left n S o)),(n:Int)-1-(t:Int))) _ (fun t ht=>?_) ?_ (by
  simp only[Nat.sub_zero];rw[List.drop_of_length_le (by simp)];simp[nxt])
 . unfold lY
   have hd:(List.range n).drop (n-(t+1))=(n-1-t)::(List.range n).drop (n-t):=by
    rw[bq (by simp;omega),List.getElem_range,show n-(t+1)+1=n-t by omega,show n-(t+1)=n-1-t by omega]
   have hv:(n:Int)-1-(t:Int)=((n-1-t:Nat):Int):=by omega
   rw[if_pos (by simp only;omega)]
   have hw:i64.wrap ((n:Int)-1-(t:Int)-1)=(n:Int)-1-((t+1:Nat):Int):=by rw[fm (by omega) (by omega)];omega
   simp only[hw]
   rw[hv,JK _ _ (by rw[cN];omega),JK _ _ (by rw[cN];omega),hd,List.find?_cons,List.any_cons]
   have hvn:n-1-t<n:=by omega
   have hin:=hinl _ hvn
   generalize n-1-t=v at*
   simp only[ae,rK]
   by_cases hS1:v∈S
   . rw[if_pos (aG hS1)]
     simp only[ae,if_true]
     rw[hin];simp[hS1]
   . rw[if_neg (by simp[hS1])]
     simp only[ae]
     by_cases ho1:v∈o
     . rw[if_pos (aG ho1),hin];simp[ho1]
     . obtain⟨b,hb3,hb4⟩:=ZJ h2 hb2 hn v ho
       rw[if_neg (by simp[ho1]),hb3]
       simp only[ae]
       have hvl:v∈left n S o:=aF (by rw[hin];simp[hS1,ho1])
       rw[aG hvl]
       have hf:=hfree v hvl
       by_cases hc:rM R (left n S o) v=0
       . rw[if_pos (hb4.2 (hf.2 hc)),aG hc];rfl
       . rw[if_neg fun e=>hc (hf.1 (hb4.1 e)),decide_eq_false hc];rfl
 . unfold lY
   rw[if_neg (by simp only;omega)]
   simp
theorem IQ(h:RG n R E)(hb:∀i j,R i j=true->i<n/\j<n)(hn:n<50){S:List Nat}(hS:S.length<=1000):∀(m:Nat) (o:List Nat),(left n S o).length<=m->o.length+m<=1000->
 Iter (jl (zn S) ((n:Int),E.filter (kp S))) (zn o)=some (if(nQ R m (left n S o) o).1=[]then(zn (nQ R m (left n S o) o).2,true)else([],false))
 |m,o,hm,ho=>by
  have hp:=aav h hb hn hS (o:=o) (by omega);have hw:i64.wrap ((n:Int)-1)=(n:Int)-1:=fm (by omega) (by omega)
  cases hl:left n S o with
  |nil=>
   have hk:nQ R m [] o=([],o):=by cases m<;>rfl
   rw[hk,if_pos rfl]
   refine nD ?_
   unfold jl
   simp only[hw]
   rw[hp,hl];rfl
  |cons a l=>
   cases m with
   |zero=>rw[hl]at hm;simp at hm
   |succ m=>
    rw[<- hl]
    cases hf:(left n S o).find? fun x=>decide (rM R (left n S o) x=0)with
    |none=>
     have hk:nQ R (m+1) (left n S o) o=(left n S o,o):=by unfold nQ;rw[hf]
     rw[hk,if_neg (by rw[hl];simp)]
     refine nD ?_
     unfold jl
     simp only[hw]
     rw[hp,hf,hl];rfl
    |some v=>
     have hk:nQ R (m+1) (left n S o) o=nQ R m ((left n S o).filter fun x=>decide (x≠v)) (o++[v]):=by
      conv=>lhs;unfold nQ
      rw[hf]
     have hvm:=List.mem_of_find?_eq_some hf
     have hleft:((left n S o).filter fun x=>decide (x≠v))=left n S (o++[v]):=by
      unfold left;rw[List.filter_filter];refine bJ fun x _=>?_
      rw[Bool.eq_iff_iff];simp only[aq,ax,aL,List.mem_singleton,not_or];exact⟨fun⟨a,b,c⟩=>⟨b,c,a⟩,fun⟨b,c,a⟩=>⟨a,b,c⟩⟩
     have hstep:jl (zn S) ((n:Int),E.filter (kp S)) (zn o)=some (.inl (zn (o++[v]))):=by
      unfold jl;simp only[hw];rw[hp,hf,hl];simp only[ae,nxt,List.isEmpty_cons];rw[if_neg (by simp),if_neg (by omega),dA (by rw[cN];simp;omega),ql];rfl
     rw[uz hstep,hk,hleft]
     refine IQ h hb hn hS m _ ?_ (by simp;omega)
     rw[<- hleft]
     have hln:(left n S o).Nodup:=nV n _
     have:=(AH hln hvm).length_eq
     rw[bH]at this
     omega
theorem Xk(n:Nat)(S:List Nat):left n S []=K0 n S:=by unfold left K0;simp
theorem IU(h:RG n R E)(hb:∀i j,R i j=true->i<n/\j<n)(hn:n<50){S:List Nat}(hS:S.length<=1000):
 pf (zn S) (n:Int) E=some (if(nQ R n (K0 n S) []).1=[]then(zn (nQ R n (K0 n S) []).2,true)else([],false)):=by
 unfold pf
 rw[(h.Fk hS).1]
 simp only[ae]
 have:=IQ h hb hn hS n [] (la _ _) (by simp;omega)
 rw[Xk]at this
 exact this
end
section
variable {n:Nat}{R:Nat->Nat->Bool}{es:List (bQ×Bool)}{out nm:List (Int×List Int)}
theorem Wq(h:PG n R es out nm)(hn:n<50){S:List Nat}(hS:S.length<=1000):
 BQ (zn S) (n:Int) es out nm=some (if(nQ R n (K0 n S) []).1=[]then(zn (nQ R n (K0 n S) []).2,true)else([],false)):=by
 unfold BQ
 rw[Ns h hn hS]
 simp only[ae,ab8]
 cases(nQ R n (K0 n S) []).1 with
 |nil=>simp
 |cons a l=>simp
end
end G
end
section
open G
namespace G
def Md(w:Nat->Int):List Nat->Nat
 |[]=>0
 |x::t=>t.foldl (fun b y=>if w y<w b then y else b) x
theorem PH(w:Nat->Int)(l:List Nat)(y:Nat):Md w (l++[y])=if l=[]then y else if w y<w (Md w l)then y else Md w l:=by
 cases l with
 |nil=>rfl
 |cons x t=>
  rw[if_neg (by simp)]
  show(t++[y]).foldl (fun b y=>if w y<w b then y else b) x=_
  rw[List.foldl_append];rfl
theorem JC(w:Nat->Int){l:List Nat}(h:l≠[]):Md w l∈l:=by
 cases l with
 |nil=>exact absurd rfl h
 |cons x t=>
  show t.foldl (fun b y=>if w y<w b then y else b) x∈x::t
  clear h
  induction t generalizing x with
  |nil=>simp
  |cons y t ih=>
   rw[List.foldl_cons]
   have:=ih (if w y<w x then y else x)
   rcases aV.1 this with e|e
   . rw[e];split<;>simp
   . exact aD _ (aD _ e)
def wt(W:List Int)(v:Nat):Int:=W.getD v 0
theorem L9{W:List Int}{v:Nat}(h:v<W.length):xE W (v:Int)=some (wt W v):=by
 unfold xE wt;rw[if_neg (by omega)];simp only[ae];rw[if_neg (by simp;omega),eG 0 h];rfl
theorem Ma{W:List Int}{v:Nat}(h:v<W.length):nN W (v:Int)=some (wt W v):=by
 unfold nN wt;rw[if_neg (by omega)];simp only[ae];rw[if_neg (by simp;omega),eG 0 h];rfl
theorem QY{W:List Int}{l:List Nat}(hl:∀v∈l,v<W.length)(hn:l.length<=1000):eT (zn l) W=some ((Md (wt W) l:Int),decide (l≠[])):=by
 unfold eT;have hI:Iter (dB (zn l) W) ((0:Int),(0:Int))=some (Md (wt W) l:Int):=by
  refine cu (f:=dB (zn l) W) l.length (fun k=>((Md (wt W) (l.take k):Int),(k:Int))) _ (fun k hk=>?_) ?_ (by simp[Md])
  . unfold dB;rw[if_pos (by rw[cN];omega),Aa hk];have htk:=aB hk;simp only[ae,df hk (by omega)];rw[htk,PH];by_cases h0:k=0
    . subst h0;simp
    . have hne:l.take k≠[]:=fun e=>by have:=congrArg List.length e;rw[aJ,List.length_nil]at this;omega
      have hb:=hl _ (List.mem_of_mem_take (JC (wt W) hne));rw[if_neg (by omega),if_neg hne];unfold xD;rw[L9 (hl _ (az hk)),L9 hb];simp only[ae,ax];split<;>rfl
  . unfold dB;rw[if_neg (by rw[cN];omega),bh]
 rw[hI];simp only[ae,cN];congr 2;rw[bp];cases l<;>simp
theorem Po{l qB:List Nat}(h:∀v∈l,v ∉ qB)(hn:l.length<=1000)(hk:qB.length<=1000):dS (zn l) (zn qB)=some (zn l):=by
 unfold dS fE;have hI:Iter (dh (zn l) (zn qB)) (0:Int)=some (-1:Int):=by
  refine cu (f:=dh (zn l) (zn qB)) l.length (fun k=>(k:Int)) _ (fun k hk2=>?_) ?_ rfl
  . unfold dh xC;rw[if_pos (by rw[cN];omega),Aa hk2];simp only[ae];rw[rN _ _ (by rw[cN];omega)];simp only[ae,rK];rw[decide_eq_false (h _ (az hk2)),if_neg (by simp),df hk2 (by omega)]
  . unfold dh;rw[if_neg (by rw[cN];omega)]
 rw[hI];simp only[ae,if_true]
noncomputable def KH(R:Nat->Nat->Bool)(n:Nat)(w:Nat->Int):Nat->List Nat->List Nat
 |0,T=>T
 |m+1,T=>if uw R n T=[]then T else KH R n w m (T++[Md w (uw R n T)])
theorem FR{R:Nat->Nat->Bool}{n:Nat}{T:List Nat}{v:Nat}(h:v∈uw R n T):v<n/\v ∉ T/\∃k,R v k=true:=by
 obtain⟨h1,h2⟩:=zl.1 h;obtain⟨k,hk⟩:=h2.fst;have:=A1 hk;exact⟨h1,this.2.1,k,this.1⟩
theorem vL{R:Nat->Nat->Bool}{n:Nat}{w:Nat->Int}{T:List Nat}(hT:T.Nodup)(hTn:∀t∈T,t<n)(hc:uw R n T≠[]):(T++[Md w (uw R n T)]).Nodup/\(∀t∈T++[Md w (uw R n T)],t<n)/\T.length<n:=by
 have hb:=FR (JC w hc);have h1:(T++[Md w (uw R n T)]).Nodup:=by rw[List.nodup_append];exact⟨hT,by simp,fun x hx y hy=>by simp at hy;subst hy;exact fun e=>hb.2.1 (by rw[<- e];exact hx)⟩
 have h2:∀t∈T++[Md w (uw R n T)],t<n:=fun t ht=>by
  rcases aL.1 ht with h|h
  . exact hTn t h
  . rw[List.mem_singleton.1 h];exact hb.1
 have h3:=CD n _ h1 h2;rw[ak,bn]at h3;exact⟨h1,h2,h3⟩
theorem Th{R:Nat->Nat->Bool}{n:Nat}{w:Nat->Int}:∀(m:Nat) (T:List Nat),T.Nodup->(∀t∈T,t<n)->n-T.length<=m->uw R n (KH R n w m T)=[]/\(KH R n w m T).Nodup/\(∀t∈KH R n w m T,t<n/\(t∈T\/∃k,R t k=true))/\(uw R n T=[]↔KH R n w m T=T)
 |0,T,hT,hTn,hm=>by
  have hc:uw R n T=[]:=aN fun hc=>by have:=(vL (w:=w) hT hTn hc).2.2;omega
  exact⟨hc,hT,fun t ht=>⟨hTn t ht,.inl ht⟩,fun _=>rfl,fun _=>hc⟩
 |m+1,T,hT,hTn,hm=>by
  unfold KH;by_cases hc:uw R n T=[]
  . rw[if_pos hc];exact⟨hc,hT,fun t ht=>⟨hTn t ht,.inl ht⟩,fun _=>rfl,fun _=>hc⟩
  . rw[if_neg hc];obtain⟨h1,h2,h3⟩:=vL (w:=w) hT hTn hc;obtain⟨k1,k2,k3,_⟩:=Th (w:=w) m _ h1 h2 (by rw[ak,bn];omega);refine⟨k1,k2,fun t ht=>⟨(k3 t ht).1,?_⟩,fun e=>absurd e hc,fun e=>?_⟩
    . rcases(k3 t ht).2 with h|h
      . rcases aL.1 h with h|h
        . exact .inl h
        . rw[List.mem_singleton.1 h];exact .inr (FR (JC w hc)).2.2
      . exact .inr h
    . have hpre:∀(m:Nat) (T:List Nat),T <+: KH R n w m T:=fun m=>by
       induction m with
       |zero=>exact fun T=>List.prefix_refl _
       |succ m ih=>
        intro T
        unfold KH
        split
        . exact List.prefix_refl _
        . exact(List.prefix_append _ _).trans (ih _)
      have:=(hpre m (T++[Md w (uw R n T)])).length_le;rw[e,ak,bn]at this;omega
section
variable {n:Nat}{R:Nat->Nat->Bool}{es:List (bQ×Bool)}{out nm:List (Int×List Int)}{W:List Int}{qB:List Nat}
theorem T3(h:PG n R es out nm)(hn:n<50)(hb:∀i j,R i j=true->i<n/\j<n)(hR:∀i j,R i j=true->i≠j)(hW:W.length=n)(hk:∀v∈qB,∀k,R v k=false)(hkl:qB.length<=1000){T:List Nat}(hT:T.length<=1000):
 yp W (zn T) (zn qB) (n:Int) es out nm=some ((Md (wt W) (uw R n T):Int),decide (uw R n T≠[]),decide (uw R n T≠[]),es):=by
 have hl:(uw R n T).length<=n:=la n fun v=>@decide (TC (wo R T) v v) (Classical.propDecidable _)
 unfold yp
 rw[UC h hn hb hR hT]
 simp only[ae]
 rw[Po (fun v hv hvk=>by
  obtain⟨_,_,k,hk2⟩:=FR hv;rw[hk v hvk k]at hk2;cases hk2) (by omega) hkl]
 simp only[ae]
 rw[QY (fun v hv=>by rw[hW];exact(FR hv).1) (by omega)]
 simp only[ae,cN]
 congr 4
 rw[bp]
 cases uw R n T<;>simp
theorem Uy(h:PG n R es out nm)(hn:n<50)(hb:∀i j,R i j=true->i<n/\j<n)(hR:∀i j,R i j=true->i≠j)(hW:W.length=n)(hk:∀v∈qB,∀k,R v k=false)(hkl:qB.length<=1000):
 xB W (zn qB) (n:Int) es out nm=some (zn (KH R n (wt W) n []),true,(n:Int),es,out,nm):=by
 have hloop:∀(m:Nat) (T:List Nat),T.Nodup->(∀t∈T,t<n)->n-T.length<=m->
  Iter qz (decide (uw R n T≠[]),decide (uw R n T≠[]),(n:Int),es,out,nm,zn (if uw R n T=[]then T else T++[Md (wt W) (uw R n T)]),W,zn qB)=some (false,(n:Int),es,out,nm,zn (KH R n (wt W) m T)):=fun m=>by
  induction m with
  |zero=>
   intro T hT hTn hm
   have hc:uw R n T=[]:=aN fun hc=>by have:=(vL (w:=wt W) hT hTn hc).2.2;omega
   refine nD ?_
   unfold qz KH
   simp[hc]
  |succ m ih=>
   intro T hT hTn hm
   by_cases hc:uw R n T=[]
   . refine nD ?_
     unfold qz KH
     simp[hc]
   . obtain⟨h1,h2,h3⟩:=vL (w:=wt W) hT hTn hc
     unfold KH
     rw[if_neg hc,if_neg hc]
     rw[<- ih _ h1 h2 (by rw[ak,bn];omega)]
     refine uz ?_
     unfold qz wZ
     rw[aG hc,if_pos rfl]
     simp only
     rw[T3 h hn hb hR hW hk hkl (by simp;omega)]
     simp only[ae]
     generalize hT':T++[Md (wt W) (uw R n T)]=T' at*
     have hl':T'.length<=n:=CD n T' h1 h2
     by_cases hc2:uw R n T'=[]
     . simp[hc2]
     . rw[aG hc2,if_pos rfl,dA (by rw[cN];simp;omega),if_neg hc2,ql];rfl
 have h0:=hloop n [] List.nodup_nil (by simp) (by simp)
 unfold xB yo
 have h1:=T3 h hn hb hR hW hk hkl (T:=[]) (by simp)
 rw[show zn []=([]:List Int) from rfl]at h1
 rw[h1]
 simp only[ae]
 have e:((if decide (uw R n []≠[])=true then(app 8 ([]:List Int) [(Md (wt W) (uw R n []):Int)]).bind fun y3=>some y3 else some ([]:List Int)):Option (List Int))=some (zn (if uw R n []=[]then[]else[]++[Md (wt W) (uw R n [])])):=by
  by_cases hc:uw R n []=[]
  . simp[hc,zn]
  . rw[aG hc,if_pos rfl,if_neg hc,dA (by simp)];rfl
 rw[e]
 simp only[ae]
 rw[h0]
 simp
theorem Sz{E:List bT}(h:RG n R E)(hn:n<50)(hb:∀i j,R i j=true->i<n/\j<n)(hW:W.length=n){T:List Nat}(hT:T.length<=1000)(hc:uw R n T≠[]):tD W (zn T) [] (n:Int) E=some (Md (wt W) (uw R n T):Int):=by
 have hl:(uw R n T).length<=n:=la n fun v=>@decide (TC (wo R T) v v) (Classical.propDecidable _)
 unfold tD;rw[BB h hn hb hT];simp only[ae];have hlt:∀v∈uw R n T,v<W.length:=fun v hv=>by rw[hW];exact(FR hv).1
 generalize uw R n T=l at*
 refine cu (f:=p8 W [] (zn l)) l.length (fun k=>(if l.take k=[]then(-1:Int)else(Md (wt W) (l.take k):Int),(k:Int))) _ (fun k hk=>?_) ?_ (by simp)
 . unfold p8;rw[if_pos (by rw[cN];omega),Aa hk];have htk:=aB hk;simp only[ae,df hk (by omega)];rw[ZP [] _ (by simp)];simp only[ae];rw[decide_eq_false (by simp),if_pos rfl,if_neg (fun e=>by have:=congrArg List.length e;rw[aJ,List.length_nil]at this;omega:¬ l.take (k+1)=[]),htk,PH];by_cases h0:l.take k=[]
   . rw[if_pos h0,if_pos (by omega)];simp[h0]
   . have hbm:=hlt _ (List.mem_of_mem_take (JC (wt W) h0));rw[if_neg h0,if_neg (by omega),Ma (hlt _ (az hk)),Ma hbm,if_neg h0];simp only[ae,ax];split<;>rfl
 . unfold p8;rw[if_neg (by rw[cN];omega),bh,if_neg hc]
theorem OX{E:List bT}(h:RG n R E)(hn:n<50)(hb:∀i j,R i j=true->i<n/\j<n)(hW:W.length=n):uL W [] (n:Int) E=some (zn (KH R n (wt W) n []),true):=by
 have hloop:∀(m:Nat) (T:List Nat),T.Nodup->(∀t∈T,t<n)->n-T.length<=m->Iter (kZ W [] (n:Int) E) (zn T)=some (zn (KH R n (wt W) m T),true):=fun m=>by
  have hfin:∀T:List Nat,T.Nodup->(∀t∈T,t<n)->uw R n T=[]->Iter (kZ W [] (n:Int) E) (zn T)=some (zn T,true):=fun T hT hTn hc=>by
   have hl:=CD n T hT hTn;refine nD ?_;unfold kZ;rw[BB h hn hb (by omega),hc];simp[zn]
  induction m with
  |zero=>
   intro T hT hTn hm
   have hc:uw R n T=[]:=aN fun hc=>by have:=(vL (w:=wt W) hT hTn hc).2.2;omega
   exact hfin T hT hTn hc
  |succ m ih=>
   intro T hT hTn hm
   by_cases hc:uw R n T=[]
   . unfold KH
     rw[if_pos hc];exact hfin T hT hTn hc
   . obtain⟨h1,h2,h3⟩:=vL (w:=wt W) hT hTn hc
     unfold KH
     rw[if_neg hc,<- ih _ h1 h2 (by rw[ak,bn];omega)]
     refine uz ?_
     unfold kZ
     rw[BB h hn hb (by omega)]
     simp only[ae]
     rw[if_pos (by rw[cN];have:=List.length_pos_iff.2 hc;omega),Sz h hn hb hW (by omega) hc]
     simp only[ae]
     rw[if_neg (by omega),dA (by rw[cN];simp;omega),ql];rfl
 exact hloop n [] List.nodup_nil (by simp) (by simp)
end
section
variable {R:Nat->Nat->Bool}
theorem MX:∀(m:Nat) (K o:List Nat),K.Nodup->((nQ R m K o).2++(nQ R m K o).1).Perm (o++K)
 |0,K,o,_=>List.Perm.refl _
 |m+1,K,o,hK=>by
  unfold nQ;split
  . exact List.Perm.refl _
  . rename_i v hv;refine(MX m _ _ (List.Pairwise.filter _ hK)).trans ?_;rw[aA];exact(AH hK (List.mem_of_find?_eq_some hv)).symm.append_left _
theorem MY:∀(m:Nat) (K o:List Nat),K.Nodup->∃rest,(nQ R m K o).2=o++rest/\(∀x∈rest,x∈K)/\rest.Pairwise fun a b=>R b a=false
 |0,K,o,_=>⟨[],by simp[nQ],by simp,List.Pairwise.nil⟩
 |m+1,K,o,hK=>by
  unfold nQ;split
  . exact⟨[],by simp,by simp,List.Pairwise.nil⟩
  . rename_i v hv;obtain⟨rest,h1,h2,h3⟩:=MY m (K.filter fun x=>decide (x≠v)) (o++[v]) (List.Pairwise.filter _ hK);have h0:=List.find?_some hv;have h0:=FI.1 (aF h0);refine⟨v::rest,by rw[h1,aA];rfl,fun x hx=>?_,List.pairwise_cons.2 ⟨fun b hb=>h0 b (aR.1 (h2 b hb)).1,h3⟩⟩;rcases aV.1 hx with rfl|hx
    . exact List.mem_of_find?_eq_some hv
    . exact(aR.1 (h2 x hx)).1
theorem KY:∀(m:Nat) (K o:List Nat),K.Nodup->K.length<=m->∀x∈(nQ R m K o).1,∃u∈(nQ R m K o).1,R u x=true
 |0,K,o,_,hm,x,hx=>by
  rw[List.length_eq_zero_iff.1 (Nat.le_zero.1 hm)]at hx;exact absurd hx (by simp[nQ])
 |m+1,K,o,hK,hm,x,hx=>by
  unfold nQ at hx ⊢;split at hx
  . rename_i hf;simp only at hx ⊢;have:=List.find?_eq_none.1 hf x hx;have h1:¬ rM R K x=0:=by simpa using this
    rw[FI]at h1;obtain⟨u,hu⟩:=Classical.not_forall.1 h1;rw[Classical.not_imp]at hu;exact⟨u,hu.1,by simpa using hu.2⟩
  . rename_i v hv;refine KY m _ _ (List.Pairwise.filter _ hK) ?_ x hx;have:=(AH hK (List.mem_of_find?_eq_some hv)).length_eq;rw[bH]at this;omega
theorem Xe(m:Nat)(K o:List Nat):∀x∈(nQ R m K o).1,x∈K:=by
 induction m generalizing K o with
 |zero=>exact fun x h=>h
 |succ m ih=>
  intro x hx
  unfold nQ at hx
  split at hx
  . exact hx
  . exact(aR.1 (ih _ _ x hx)).1
open Classical in
theorem PO{K:List Nat}(hK:∀x∈K,∃u∈K,R u x=true):∀(k:Nat) (x:Nat),x∈K->(K.filter fun u=>decide (TC R u x)).length<=k->∃v∈K,TC R v v
 |k,x,hx,hk=>by
  obtain⟨u,hu,hr⟩:=hK x hx;by_cases hc:TC R u u
  . exact⟨u,hu,hc⟩
  . have hlt:(K.filter fun a=>decide (TC R a u)).length<(K.filter fun a=>decide (TC R a x)).length:=by
     have e:(K.filter fun a=>decide (TC R a u))=(K.filter fun a=>decide (TC R a x)).filter fun a=>decide (TC R a u):=by
      rw[List.filter_filter];refine bJ fun a _=>?_
      rw[Bool.eq_iff_iff,aq,ax,ax];exact⟨fun h=>⟨h,h.snoc hr⟩,fun h=>h.1⟩
     rw[e];refine List.length_filter_lt_length_iff_exists.2 ⟨u,aR.2 ⟨hu,aG (.one hr)⟩,?_⟩;rw[ax];exact hc
    cases k with
    |zero=>omega
    |succ k=>exact PO hK k u hu (by omega)
theorem MW{n:Nat}{S:List Nat}(hb:∀i j,R i j=true->i<n/\j<n):(nQ R n (K0 n S) []).1=[]↔uw R n S=[]:=by
 constructor
 . intro h;refine aN fun hc=>?_
   cases hl:uw R n S with
   |nil=>exact hc hl
   |cons v l=>
    have hv:v∈uw R n S:=by rw[hl];exact ar ..
    have:=MN hb (zl.1 hv).2 n
    rw[h]at this;cases this
 . intro h;refine aN fun hc=>?_
   have hst:=KY (R:=R) n (K0 n S) [] (nV _ _) (la _ _);have hsub:=Xe (R:=R) n (K0 n S) [];generalize (nQ R n (K0 n S) []).1=K at*
   cases K with
   |nil=>exact hc rfl
   |cons x l=>
    have hS:∀y∈x::l,y ∉ S/\y<n:=fun y hy=>by
     have:=ia.1 (hsub y hy);exact⟨aF this.2,this.1⟩
    obtain⟨v,hv,ht⟩:=PO (R:=wo R S) (K:=x::l) (fun y hy=>by
     obtain⟨u,hu,hr⟩:=hst y hy;exact⟨u,hu,by unfold wo;simp[hr,(hS u hu).1,(hS y hy).1]⟩) _ x (ar ..) (Nat.le_refl _)
    have:v∈uw R n S:=zl.2 ⟨(hS v hv).2,ht⟩
    rw[h]at this;cases this
theorem R9{n:Nat}{S S':List Nat}(h:∀x,x∈S↔x∈S'):K0 n S=K0 n S':=by
 unfold K0;refine bJ fun x _=>?_
 rw[bp,h]
end
end G
end
section
open IntKind(i64)
open G
namespace G
section
variable {d:bZ}{S:List bO}
theorem Gp(h:Sm d S)(hn:d.bP.length<=20):Rt d.bP:=
 ⟨by omega,fun c hc=>ZK (h.vd.sD c hc) h.Yh.2,fun c hc=>by
  have:=((h.vd.sD c hc).fit).data h.Yh.1;have h2:=h.new;have h3:=(h.vd.sD c hc).fit.fits;have h4:=(h.vd.sD c hc).fit.JY;by_cases hk:c.kind=1
  . rw[(h.vd.sD c hc).nice.copy hk];simp
  . unfold ed at h3;rw[GL hk]at h3;omega,fun i hi=>by
  cases hc:QB d.bP i with
  |false=>rfl
  |true=>exact absurd (Dv.2 ⟨i,hi,hc⟩) h.vd.apart⟩
theorem ZY(h:Sm d S){c:bO}(hc:c∈d.bP)(hk:c.kind≠1):c.kind=2:=((h.vd.sD c hc).lit hk).1
end
def Rl(l:List bO)(i j:Nat):Bool:=decide (i<l.length)&&decide (j∈nb l i)
section
variable {l:List bO}
theorem G0{i j:Nat}:Rl l i j=true↔i<l.length/\j<l.length/\i≠j/\F6 (cat l i) (cat l j)=true:=by
 unfold Rl;rw[aq,ax,ax,HW]
theorem Pu(i j:Nat)(h:Rl l i j=true):i<l.length/\j<l.length:=⟨(G0.1 h).1,(G0.1 h).2.1⟩
theorem acX(i j:Nat)(h:Rl l i j=true):i≠j:=(G0.1 h).2.2.1
theorem Te{i j:Nat}(h:Rl l i j=true):(cat l i).kind=1:=by
 have:=(G0.1 h).2.2.2;unfold F6 at this;exact(aF this).1
theorem Ve(h:Rt l):∃es out nm,oT l=some ((l.length:Int),es,out,nm)/\PG l.length (Rl l) es out nm:=by
 have hn:=h.len;obtain⟨es,out,nm,L,h1,h2,h3,h4⟩:=J4 h;refine⟨es,out,nm,h1,⟨L,h2,by omega,fun e=>?_⟩⟩;rw[h4];constructor
 . rintro⟨p,hp,rfl⟩;obtain⟨k1,k2⟩:=Bp.1 hp;exact⟨p.1,p.2,k1,(HW.1 k2).1,by unfold Rl;simp[k1,k2],rfl⟩
 . rintro⟨i,j,hi,hj,hr,rfl⟩;unfold Rl at hr;simp only[aq,ax]at hr;exact⟨(i,j),Bp.2 hr,rfl⟩
theorem HI(h:Rt l):∃E,ic l=some ((l.length:Int),E)/\RG l.length (Rl l) E:=by
 have hn:=h.len;refine⟨_,IP h,?_,fun e=>?_⟩
 . rw[aI];have:=Gl l l.length;have:l.length*l.length<=30*30:=Nat.mul_le_mul hn hn;omega
 . rw[List.mem_map];constructor
   . rintro⟨p,hp,rfl⟩;obtain⟨k1,k2⟩:=Bp.1 hp;exact⟨p.1,p.2,k1,(HW.1 k2).1,by unfold Rl;simp[k1,k2],rfl⟩
   . rintro⟨i,j,hi,hj,hr,rfl⟩;unfold Rl at hr;simp only[aq,ax]at hr;exact⟨(i,j),Bp.2 hr,rfl⟩
def lits(l:List bO):List Nat:=(List.range l.length).filter fun i=>decide ((cat l i).kind=2)
def lens(l:List bO):List Int:=l.map (·.len)
noncomputable def ev(l:List bO):List Nat:=KH (Rl l) l.length (wt (lens l)) l.length []
noncomputable def od(l:List bO):List Nat:=(nQ (Rl l) l.length (K0 l.length (lits l++ev l)) []).2
theorem Qk:(lits l).length<=l.length:=la _ _
theorem tA:uw (Rl l) l.length (ev l)=[]/\(ev l).Nodup/\(∀t∈ev l,t<l.length/\(cat l t).kind=1)/\(uw (Rl l) l.length []=[]↔ev l=[]):=by
 obtain⟨h1,h2,h3,h4⟩:=Th (R:=Rl l) (n:=l.length) (w:=wt (lens l)) l.length [] List.nodup_nil (by simp) (by simp);refine⟨h1,h2,fun t ht=>⟨(h3 t ht).1,?_⟩,h4⟩;rcases(h3 t ht).2 with h|⟨k,h⟩
 . cases h
 . exact Te h
theorem KQ:(ev l).length<=l.length:=CD _ _ tA.2.1 fun t ht=>(tA.2.2.1 t ht).1
theorem WQ{R:Nat->Nat->Bool}{n:Nat}{S S':List Nat}(hs:∀x∈S,x∈S')(h:uw R n S=[]):uw R n S'=[]:=by
 refine aN fun hc=>?_
 cases hl:uw R n S' with
 |nil=>exact hc hl
 |cons v t=>
  obtain⟨h1,h2⟩:=zl.1 (by rw[hl];exact ar .. :v∈uw R n S')
  have hm:∀i j,TC (wo R S') i j->TC (wo R S) i j:=fun i j ht=>by
   have hw:∀i j,wo R S' i j=true->wo R S i j=true:=fun i j hw=>by
    obtain⟨a,b,c⟩:=A1 hw;unfold wo;rw[a,Bool.true_and,aq,ax,ax];exact⟨fun hm=>b (hs _ hm),fun hm=>c (hs _ hm)⟩
   induction ht with
   |one h=>exact .one (hw _ _ h)
   |cons h _ ih=>exact .cons (hw _ _ h) ih
  have:v∈uw R n S:=zl.2 ⟨h1,hm _ _ h2⟩
  rw[h]at this;cases this
theorem OD:(nQ (Rl l) l.length (K0 l.length (lits l++ev l)) []).1=[]:=(MW Pu).2 (WQ (fun x hx=>by simp[hx]) tA.1)
theorem JR:(od l).Perm (K0 l.length (lits l++ev l)):=by
 have:=MX (R:=Rl l) l.length (K0 l.length (lits l++ev l)) [] (nV _ _);rw[OD,aK]at this;exact this
theorem HX{x:Nat}:x∈od l↔x<l.length/\(cat l x).kind≠2/\x ∉ ev l:=by
 rw[JR.mem_iff];unfold K0;rw[ia,ax,aL,not_or];constructor
 . rintro⟨h1,h2,h3⟩;exact⟨h1,fun hk=>h2 (ia.2 ⟨h1,aG hk⟩),h3⟩
 . rintro⟨h1,h2,h3⟩;exact⟨h1,fun hm=>h2 (aF (ia.1 hm).2),h3⟩
theorem aaj:(od l).Pairwise fun a b=>Rl l b a=false:=by
 obtain⟨rest,h1,_,h3⟩:=MY (R:=Rl l) l.length (K0 l.length (lits l++ev l)) [] (nV _ _);have:od l=rest:=by unfold od;rw[h1];rfl
 rw[this];exact h3
theorem XL:(od l).length<=l.length:=by rw[JR.length_eq];exact la _ _
theorem Qr:(od l).Nodup:=(JR.nodup_iff).2 (nV _ _)
theorem Qj(hn:l.length<=30)(g1:Int)(g2:List (bQ×Bool))(g3 g4:List (Int×List Int)):fV l g1 g2 g3 g4=some (zn (lits l)):=by
 unfold fV lits;refine rO (f:=gK l) l.length (fun i=>decide ((cat l i).kind=2)) (fun k acc=>(zn acc,(k:Int))) _ (fun k hk=>?_) ?_ rfl
 . unfold gK;have:=la k fun i=>decide ((cat l i).kind=2)
   rw[if_pos (by simp only;omega)];simp only[cC hk,ae,df hk (by omega),bW hk];by_cases h:l[k].kind=2
   . rw[if_pos h,dA (by rw[cN,bn];omega),if_pos (aG h),ql];rfl
   . rw[if_neg h,if_neg (by simpa using h),aK]
 . unfold gK;rw[if_neg (by simp)]
theorem Xn(hn:l.length<=30):Iter (fH l) (([]:List Int),(0:Int))=some (lens l):=by
 refine cu (f:=fH l) l.length (fun k=>(lens (l.take k),(k:Int))) _ (fun k hk=>?_) ?_ (by simp[lens])
 . unfold fH;rw[if_pos (by simp only;omega)];simp only[cC hk,ae,df hk (by omega)];rw[dA (by unfold lens;simp;omega),aB hk];unfold lens;rw[aX];rfl
 . unfold fH;rw[if_neg (by simp),bh]
theorem Xo(hn:l.length<=30):Iter (jH l) (([]:List Int),(0:Int))=some (lens l):=by
 refine cu (f:=jH l) l.length (fun k=>(lens (l.take k),(k:Int))) _ (fun k hk=>?_) ?_ (by simp[lens])
 . unfold jH;rw[if_pos (by simp only;omega)];simp only[cC hk,ae,df hk (by omega)];rw[dA (by unfold lens;simp;omega),aB hk];unfold lens;rw[aX];rfl
 . unfold jH;rw[if_neg (by simp),bh]
theorem Qh:(lens l).length=l.length:=aI ..
theorem vY(h:Rt l):∃g,rh l=some (l,zn (ev l),zn (od l),g):=by
 have hn:=h.len;obtain⟨es,out,nm,h1,hG⟩:=Ve h;unfold rh;rw[h1];simp only[ae];unfold n7;rw[Xn hn];simp only[ae];rw[Qj hn];simp only[ae];have hll:=Qk (l:=l);have hel:=KQ (l:=l);rw[Uy hG (by omega) Pu acX Qh (fun v hv k=>by
  cases hr:Rl l v k with
  |false=>rfl
  |true=>
   have:=aF (ia.1 hv).2
   rw[Te hr]at this;cases this) (by omega)]
 simp only[ae];rw[Qj hn];simp only[ae];have e:KH (Rl l) l.length (wt (lens l)) l.length []=ev l:=rfl;rw[e,dA (by rw[cN,cN];omega),<- ql];simp only[ae];rw[Wq hG (by omega) (by simp;omega),if_pos OD];exact⟨_,rfl⟩
theorem wi(h:Rt l):hZ l=some (zn (ev l)):=by
 have hn:=h.len;obtain⟨E,h1,hG⟩:=HI h;unfold hZ;rw[Xo hn];simp only[ae];rw[h1];simp only[ae];rw[OX hG (by omega) Pu Qh];rfl
theorem Ek(h:Rt l):pg l=some (zn (od l)):=by
 have hn:=h.len;have hll:=Qk (l:=l);have hel:=KQ (l:=l);obtain⟨E,h1,hG⟩:=HI h;unfold pg;rw[wi h];simp only[ae];have hI:Iter (lZ l) (zn (ev l),(0:Int))=some (zn (ev l++lits l)):=by
  refine rO (f:=lZ l) l.length (fun i=>decide ((cat l i).kind=2)) (fun k acc=>(zn (ev l++acc),(k:Int))) _ (fun k hk=>?_) ?_ (by simp)
  . unfold lZ;have:=la k fun i=>decide ((cat l i).kind=2)
    rw[if_pos (by simp only;omega)];simp only[cC hk,ae,df hk (by omega),bW hk];by_cases h:l[k].kind=2
    . rw[if_pos h,dA (by rw[cN,ak,bn];omega),if_pos (aG h),<- aA,ql (_++_)];rfl
    . rw[if_neg h,if_neg (by simpa using h),aK]
  . unfold lZ;rw[if_neg (by simp)];rfl
 rw[hI];simp only[ae];rw[h1];simp only[ae];rw[IU hG Pu (by omega) (by simp;omega),R9 (S':=lits l++ev l) (fun x=>by rw[aL,aL,or_comm]),if_pos OD];rfl
theorem sum_nat(f:Nat->Int)(B:Int)(hB:0<=B):∀(t:List Nat),(∀x∈t,0<=f x/\f x<=B)->0<=(t.map f).sum/\(t.map f).sum<=B*t.length
 |[],_=>by simp
 |x::t,h=>by
  have h1:=h x (ar ..);have h2:=sum_nat f B hB t fun y hy=>h y (aD _ hy)
  rw[aO,List.sum_cons,bH];have:B*((t.length+1:Nat):Int)=B*(t.length:Int)+B:=by rw[Int.natCast_add,Int.mul_add];omega
  omega
noncomputable def Vg(l:List bO):Int:=((ev l).map fun i=>(cat l i).len).sum
theorem P5{f:Int×Int->Option ((Int×Int)⊕Int)}(hn:l.length<=30)(hl:∀i∈ev l,0<=(cat l i).len/\(cat l i).len<=1000000)
 (hf:∀s,f s=if s.2<((zn (ev l)).length:Int)then(idx (zn (ev l)) s.2).bind fun x3=>(idx l x3).bind fun x4=>some (.inl (i64.wrap (s.1+x4.len),i64.wrap (s.2+1)))else some (.inr s.1)):Iter f ((0:Int),(0:Int))=some (Vg l):=by
 have hel:=KQ (l:=l)
 refine cu (f:=f) (ev l).length (fun k=>((((ev l).take k).map fun i=>(cat l i).len).sum,(k:Int))) _ (fun k hk=>?_) ?_ (by simp)
 . have hm:=az hk
   have hlt:=(tA.2.2.1 _ hm).1
   have hc:=hl _ hm
   have hs:=sum_nat (fun i=>(cat l i).len) 1000000 (by omega) ((ev l).take k) fun x hx=>hl x (List.mem_of_mem_take hx)
   have hk3:((ev l).take k).length<=30:=by rw[aJ];omega
   rw[hf,if_pos (by rw[cN];simp only;omega)]
   simp only[Aa hk,ae,cC hlt,df hk (by omega)]
   rw[aB hk,aX,List.sum_append]
   rw[bW hlt]at hc
   simp only[aO,bG,List.sum_cons,List.sum_nil,Int.add_zero,bW hlt]
   rw[fm (by omega) (by omega)]
 . rw[hf,if_neg (by rw[cN];simp only;omega),bh];rfl
end
section
variable {d:bZ}{S:List bO}
theorem Xm(h:Sm d S):∀i∈ev d.bP,0<=(cat d.bP i).len/\(cat d.bP i).len<=1000000:=fun i hi=>by
 obtain⟨h1,h2⟩:=tA.2.2.1 i hi;rw[bW h1]at h2 ⊢;have hg:=(h.vd.sD _ (az h1)).fit;have h3:=hg.fits;have h4:=hg.JY;have h5:=hg.nice.qM;have h6:=h.new;unfold ed at h3;rw[yd h2]at h3 h5;omega
theorem GZ(h:Sm d S)(hn:d.bP.length<=20):oU d=some (Vg d.bP):=by
 obtain⟨g,hg⟩:=vY (Gp h hn);unfold oU;rw[hg];simp only[ae];exact P5 (by omega) (Xm h) fun s=>rfl
theorem OY(h:Sm d S)(hn:d.bP.length<=20):qS d.bP=some (Vg d.bP):=by
 unfold qS;rw[wi (Gp h hn)];simp only[ae];exact P5 (by omega) (Xm h) fun s=>rfl
end
end G
end
end Go.Proofs.YtekpafdhgkocaaaGreat
