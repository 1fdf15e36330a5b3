/- Part of the proof. -/
import Derived.Test.YtekpafdhgkocaaaGreatZPLV
namespace Go.Proofs.YtekpafdhgkocaaaGreat
section
open G
namespace G
def zn(l:List Nat):List Int:=l.map fun k:Nat=>(k:Int)
theorem dC(l:List Nat):(zn l).length=l.length:=aJ ..
theorem sP(a b:List Nat):zn (a++b)=zn a++zn b:=aY
theorem rJ{l:List Nat}{k:Nat}:(k:Int)∈zn l↔k∈l:=by
 unfold zn;rw[List.mem_map];refine⟨fun⟨j,h,e⟩=>?_,fun h=>⟨k,h,rfl⟩⟩;obtain rfl:j=k:=by omega
 exact h
theorem Hp{l:List Nat}{x:Int}:x∈zn l↔∃k∈l,x=(k:Int):=by
 unfold zn;rw[List.mem_map];exact⟨fun⟨j,h,e⟩=>⟨j,h,e.symm⟩,fun⟨j,h,e⟩=>⟨j,h,e.symm⟩⟩
theorem BQ{l:List Nat}{i:Nat}(h:i<l.length):idx (zn l) (i:Int)=some ((l[i]:Nat):Int):=by
 rw[cN (by rw[dC];exact h)];simp[zn]
theorem Vl(l:List Nat)(k:Nat):(zn l).take k=zn (l.take k):=List.map_take.symm
theorem ab2(l:List Nat)(k:Nat):(zn l).drop k=zn (l.drop k):=List.map_drop.symm
theorem R9{l:List Nat}(h:l.Nodup):(zn l).Nodup:=Ws (fun a b e=>by omega) h
theorem I2{l:List Nat}(h:l.Pairwise (· < ·)):(zn l).Pairwise (· <= ·):=by
 unfold zn;rw[List.pairwise_map];exact h.imp fun h=>by omega
theorem AD(n:Nat)(p:Nat->Bool):((List.range n).filter p).Pairwise (· < ·):=List.Pairwise.filter _ List.pairwise_lt_range
theorem rl(n:Nat)(p:Nat->Bool):((List.range n).filter p).Nodup:=List.Pairwise.filter _ List.nodup_range
theorem my(n:Nat)(p:Nat->Bool):((List.range n).filter p).length<=n:=by have:=bC p (List.range n);simpa using this
theorem ig{n k:Nat}{p:Nat->Bool}:k∈(List.range n).filter p↔k<n/\p k=true:=by rw[ba,List.mem_range]
theorem abw(k:Nat)(p:Nat->Bool):(List.range (k+1)).filter p=(List.range k).filter p++if p k=true then[k]else[]:=by
 rw[List.range_succ,List.filter_append];cases h:p k<;>simp[h]
theorem ue{σ α:Type}{f:σ->Option (σ⊕α)}(n:Nat)(p:Nat->Bool)(st:Nat->List Nat->σ)(r:α)
 (hstep:∀k,k<n->f (st k ((List.range k).filter p))=some (.inl (st (k+1) ((List.range k).filter p++if p k=true then[k]else[])))) (hend:f (st n ((List.range n).filter p))=some (.inr r)) {s:σ} (hs:s=st 0 []):Iter f s=some r:=
 cb n (fun k=>st k ((List.range k).filter p)) r (fun k hk=>by rw[abw];exact hstep k hk) hend hs
def mk(l:List Nat)(f:Nat->Int):List (Int×Int):=l.map fun k:Nat=>((k:Int),f k)
theorem mk_congr{l:List Nat}{f g:Nat->Int}(h:∀k∈l,f k=g k):mk l f=mk l g:=List.map_congr_left fun k hk=>by rw[h k hk]
theorem LO{l:List Nat}{f:Nat->Int}(k:Nat):dT dn (mk l f) (k:Int)=if k∈l then some (f k)else none:=by
 induction l with
 |nil=>rfl
 |cons x l ih=>
  unfold mk at ih ⊢
  rw[aO,vY,ih]
  by_cases h:k=x
  . subst h;rw[if_pos (gK.refl _),if_pos (ax ..)]
  . rw[if_neg (by rw[gK.ne fun e=>h (by simp only at e;omega)];simp)]
    by_cases h2:k∈l
    . rw[if_pos h2,if_pos (aE _ h2)]
    . rw[if_neg h2,if_neg fun hm=>(aZ.1 hm).elim h h2]
def Z2(f:Nat->Int)(k:Nat)(y:Int)(x:Nat):Int:=if x=k then y else f x
theorem Yu{l:List Nat}{f:Nat->Int}(k:Nat):(mk l f).any (fun p=>dn (k:Int) p.1)=decide (k∈l):=by
 rw[Bool.eq_iff_iff,bH,au];unfold mk;constructor
 . rintro⟨p,hp,he⟩;obtain⟨j,hj,rfl⟩:=List.mem_map.1 hp;have:=(gK _ _).1 he;obtain rfl:k=j:=by simp only at this;omega
   exact hj
 . exact fun h=>⟨_,List.mem_map.2 ⟨k,h,rfl⟩,gK.refl _⟩
theorem Yv{l:List Nat}{f:Nat->Int}{k:Nat}{y:Int}(h:k∈l):lP dn (mk l f) (k:Int) y=mk l (Z2 f k y):=by
 unfold lP;rw[Yu,if_pos (aH h)];unfold mk;rw[List.map_map];refine List.map_congr_left fun x _=>?_
 simp only[Function.comp,Z2];by_cases e:x=k
 . subst e;rw[if_pos (gK.refl _),if_pos rfl]
 . rw[if_neg (by rw[gK.ne fun e'=>e (by omega)];simp),if_neg e]
theorem adp{l:List Nat}{f:Nat->Int}{k:Nat}{y:Int}(h:k ∉ l)(hf:f k=y):lP dn (mk l f) (k:Int) y=mk (l++[k]) f:=by
 unfold lP;rw[Yu,if_neg (by simp[h])];unfold mk;rw[aY,<- hf];rfl
theorem adn{l:List Nat}{f:Nat->Int}(k:Nat):Wm dn (mk l f) (k:Int)=mk (l.filter fun x=>decide (x≠k)) f:=by
 unfold Wm mk;rw[List.filter_map];congr 1;refine bI fun x _=>?_
 simp only[Function.comp];by_cases e:x=k
 . subst e;rw[gK.refl];simp
 . rw[gK.ne fun e'=>e (by omega)];simp[e]
theorem ado(l:List Nat)(f:Nat->Int):(mk l f).length=l.length:=aJ ..
theorem aaY(l:List Nat)(f:Nat->Int):(mk l f).map (fun e=>e.1)=zn l:=by unfold mk zn;rw[List.map_map];rfl
def outs(R:Nat->Nat->Bool)(n v:Nat):List Nat:=(List.range n).filter (R v)
def ins(R:Nat->Nat->Bool)(n v:Nat):List Nat:=(List.range n).filter fun u=>R u v
structure PG(n:Nat)(R:Nat->Nat->Bool)(es:List (bP×Bool))(out oi:List (Int×List Int)):Prop where
 ex:∃L:List bP,GR L es out oi/\L.length<=2000/\∀e,e∈L↔∃i j:Nat,i<n/\j<n/\R i j=true/\e=⟨(i:Int),(j:Int)⟩
section
variable {n:Nat}{R:Nat->Nat->Bool}{es:List (bP×Bool)}{out oi:List (Int×List Int)}
theorem Oc{L:List bP}(hn:L.Nodup)(a b:bP->Int)(hab:∀e e':bP,a e=a e'->b e=b e'->e=e')(v:Nat){w:List Nat}(hw:w.Nodup)(hm:∀x:Int,(∃e∈L,a e=(v:Int)/\b e=x)↔x∈zn w):
 ((L.filter fun e=>dn (a e) (v:Int)).map b).Perm (zn w):=by
 refine(List.perm_ext_iff_of_nodup ?_ (R9 hw)).2 fun x=>?_
 . rw[List.nodup_iff_pairwise_ne,List.pairwise_map]
   refine List.Pairwise.imp_of_mem (R:=fun a b=>a≠b) (fun{p q} hp hq hne e=>hne ?_) (List.Pairwise.filter _ hn)
   have e1:=(gK _ _).1 (ba.1 hp).2
   have e2:=(gK _ _).1 (ba.1 hq).2
   exact hab _ _ (e1.trans e2.symm) e
 . rw[List.mem_map,<- hm]
   constructor
   . rintro⟨e,he,rfl⟩
     obtain⟨h1,h2⟩:=ba.1 he
     exact⟨e,h1,(gK _ _).1 h2,rfl⟩
   . rintro⟨e,h1,h2,rfl⟩
     exact⟨e,ba.2 ⟨h1,(gK _ _).2 h2⟩,rfl⟩
theorem Uk{e e':bP}(h1:e.cq=e'.cq)(h2:e.to=e'.to):e=e':=by cases e;cases e';simp only at h1 h2;subst h1 h2;rfl
theorem PG.GU(h:PG n R es out oi){v:Nat}(hv:v<n):((dT dn out (v:Int)).getD []).Perm (zn (outs R n v)):=by
 obtain⟨L,hG,_,h3⟩:=h.ex;rw[hG.out];refine Oc hG.nd (·.cq) (·.to) (fun e e'=>Uk) v (rl _ _) fun x=>?_
 rw[Hp];constructor
 . rintro⟨e,he,h1,rfl⟩;obtain⟨i,j,hi,hj,hr,rfl⟩:=(h3 e).1 he;obtain rfl:i=v:=by simp only at h1;omega
   exact⟨j,ig.2 ⟨hj,hr⟩,rfl⟩
 . rintro⟨j,hj,rfl⟩;obtain⟨h1,h2⟩:=ig.1 hj;exact⟨⟨(v:Int),(j:Int)⟩,(h3 _).2 ⟨v,j,hv,h1,h2,rfl⟩,rfl,rfl⟩
theorem PG.inp(h:PG n R es out oi){v:Nat}(hv:v<n):((dT dn oi (v:Int)).getD []).Perm (zn (ins R n v)):=by
 obtain⟨L,hG,_,h3⟩:=h.ex;rw[hG.oi];refine Oc hG.nd (·.to) (·.cq) (fun e e' h1 h2=>Uk h2 h1) v (rl _ _) fun x=>?_
 rw[Hp];constructor
 . rintro⟨e,he,h1,rfl⟩;obtain⟨i,j,hi,hj,hr,rfl⟩:=(h3 e).1 he;obtain rfl:j=v:=by simp only at h1;omega
   exact⟨i,ig.2 ⟨hi,hr⟩,rfl⟩
 . rintro⟨j,hj,rfl⟩;obtain⟨h1,h2⟩:=ig.1 hj;exact⟨⟨(j:Int),(v:Int)⟩,(h3 _).2 ⟨j,v,h1,hv,h2,rfl⟩,rfl,rfl⟩
theorem Na{v w:List Int}(hw:v.Perm w)(hs:w.Pairwise (· <= ·))(hn:w.length<50):dt v=some w:=by
 have hl:=hw.length_eq;unfold dt;rw[Sj _ (by omega)];simp only[aa];obtain⟨r,e,h1,h2⟩:=QO.tu v (by omega);rw[e];simp only[aa];rw[Og (h1.trans hw) h2 hs]
theorem PG.Out(h:PG n R es out oi)(hn:n<50){v:Nat}(hv:v<n)(N:Int)(e2:List (bP×Bool))(i2:List (Int×List Int)):qJ (v:Int) N e2 out i2=some (zn (outs R n v)):=by
 have:=my n (R v);unfold qJ jG;simp only[aa];rw[Na (h.GU hv) (I2 (AD _ _)) (by rw[dC];unfold outs;omega)];rfl
theorem PG.In(h:PG n R es out oi)(hn:n<50){v:Nat}(hv:v<n)(N:Int)(e2:List (bP×Bool))(o2:List (Int×List Int)):rQ (v:Int) N e2 o2 oi=some (zn (ins R n v)):=by
 have:=my n fun u=>R u v
 unfold rQ jG;simp only[aa];rw[Na (h.inp hv) (I2 (AD _ _)) (by rw[dC];unfold ins;omega)];rfl
def wo(R:Nat->Nat->Bool)(S:List Nat)(i j:Nat):Bool:=R i j&&(decide (i ∉ S)&&decide (j ∉ S))
theorem KD{γ:Type}{S:List Nat}(hS:S.length<=1000)(hR:∀i j,R i j=true->i≠j)(kk:((List (bP×Bool))×Int×(List (bP×Bool))×(List (Int×(List Int)))×(List (Int×(List Int))))->Option γ){r:γ}{L:List bP}(hL:L.length<=2000)(hnd:L.Nodup)
 (h3:∀e,e∈L↔∃i j:Nat,i<n/\j<n/\R i j=true/\e=⟨(i:Int),(j:Int)⟩) (y1:Int×(List (bP×Bool))×(List (Int×(List Int)))×(List (Int×(List Int)))) (hy:y1.1=(n:Int))
 (hk:∀es2 out2 inn2,PG n (wo R S) es2 out2 inn2->kk (es,(n:Int),es2,out2,inn2)=some r):
 ∀(p done:List bP) (LL:List bP) (es2:List (bP×Bool)) (out2 inn2:List (Int×List Int)),(done++p).Perm L->GR LL es2 out2 inn2->LL.length<=done.length->(∀e,e∈LL↔e∈done/\e.cq ∉ zn S/\e.to ∉ zn S)->
  pR (fB (zn S) y1) (ku kk y1) p (es,es2,out2,inn2)=some r
 |[],done,LL,es2,out2,inn2,hp,hG,hl,hm=>by
  rw[aL]at hp;unfold pR ku;rw[hy,hk es2 out2 inn2 ⟨LL,hG,by have:=hp.length_eq;omega,fun e=>?_⟩];rfl;rw[hm,hp.mem_iff,h3];constructor
  . rintro⟨⟨i,j,hi,hj,hr,rfl⟩,h1,h2⟩;exact⟨i,j,hi,hj,by unfold wo;simp only[rJ]at h1 h2;simp[hr,h1,h2],rfl⟩
  . rintro⟨i,j,hi,hj,hr,rfl⟩;unfold wo at hr;simp only[aq,au]at hr;exact⟨⟨i,j,hi,hj,hr.1,rfl⟩,by simp only[rJ];exact hr.2.1,by simp only[rJ];exact hr.2.2⟩
 |e::p,done,LL,es2,out2,inn2,hp,hG,hl,hm=>by
  have hlen:=hp.length_eq;rw[ak,bK]at hlen;have heL:e∈L:=hp.mem_iff.1 (by simp);obtain⟨i,j,hi,hj,hr,rfl⟩:=(h3 e).1 heL;have hnd2:=(hp.nodup_iff).2 hnd;have hed:(⟨(i:Int),(j:Int)⟩:bP) ∉ done:=fun hd=>(List.nodup_append.1 hnd2).2.2 _ hd _ (ax ..) rfl
  have hp':((done++[(⟨(i:Int),(j:Int)⟩:bP)])++p).Perm L:=by rw[az];exact hp
  have hgo:∀{LL':List bP} {es3:List (bP×Bool)} {out3 inn3:List (Int×List Int)},fB (γ:=γ) (zn S) y1 ⟨(i:Int),(j:Int)⟩ (es,es2,out2,inn2)=some (.inl (es,es3,out3,inn3))->GR LL' es3 out3 inn3->LL'.length<=done.length+1->
   (∀e,e∈LL'↔e∈done++[⟨(i:Int),(j:Int)⟩]/\e.cq ∉ zn S/\e.to ∉ zn S)->pR (fB (zn S) y1) (ku kk y1) (⟨(i:Int),(j:Int)⟩::p) (es,es2,out2,inn2)=some r:=fun h1 h2 h3' h4=>by
   unfold pR
   rw[h1]
   exact KD hS hR kk hL hnd h3 y1 hy hk p _ _ _ _ _ hp' h2 (by simpa using h3') h4
  have hc1:=rL (zn S) (i:Int) (by rw[dC];omega);have hc2:=rL (zn S) (j:Int) (by rw[dC];omega);by_cases hc:(i:Int) ∉ zn S/\(j:Int) ∉ zn S
  . obtain⟨k,es3,out3,inn3,L3,ha,hG3,hor⟩:=Xb (n:=(n:Int)) hG (i:=(i:Int)) (j:=(j:Int)) (by omega) (by omega) (by omega) (by omega) (by omega);rcases hor with⟨h4|h4,_⟩|⟨_,rfl⟩
    . exact absurd (by omega:i=j) (hR i j hr)
    . exact absurd ((hm _).1 h4).1 hed
    . refine hgo (es3:=es3) (out3:=out3) (inn3:=inn3) ?_ hG3 (by simp;omega) fun e=>?_
      . unfold fB;simp only[hc1,hc2,aa,hy,ha];rw[if_pos (by simp[hc.1])];simp only[aa];rw[if_pos (by simp[hc.2])]
      . rw[aK,aK,hm,List.mem_singleton];constructor
        . rintro(h|rfl)
          . exact⟨.inl h.1,h.2⟩
          . exact⟨.inr rfl,hc⟩
        . rintro⟨h|rfl,h2⟩
          . exact .inl ⟨h,h2⟩
          . exact .inr rfl
  . refine hgo ?_ hG (by omega) fun e=>?_
    . unfold fB;simp only[hc1,hc2,aa];by_cases h1:(i:Int)∈zn S
      . rw[if_neg (by simp[h1])];simp only[aa];rw[if_neg (by simp)]
      . rw[if_pos (by simp[h1])];simp only[aa];rw[if_neg (by
         have:(j:Int)∈zn S:=aP fun h2=>hc ⟨h1,h2⟩
         simp[this])]
    . rw[hm,aK,List.mem_singleton];constructor
      . exact fun h=>⟨.inl h.1,h.2⟩
      . rintro⟨h|rfl,h2⟩
        . exact⟨h,h2⟩
        . exact absurd h2 hc
theorem PG.FT{γ:Type}(h:PG n R es out oi)(hn:n<=1000){S:List Nat}(hS:S.length<=1000)(hR:∀i j,R i j=true->i≠j)(kk:((List (bP×Bool))×Int×(List (bP×Bool))×(List (Int×(List Int)))×(List (Int×(List Int))))->Option γ){r:γ}
 (hk:∀es2 out2 inn2,PG n (wo R S) es2 out2 inn2->kk (es,(n:Int),es2,out2,inn2)=some r):nA (zn S) (n:Int) es out oi kk=some r:=by
 obtain⟨L,hG,hL,h3⟩:=h.ex
 unfold nA uk
 rw[if_neg (by omega)]
 simp only[aa]
 rw[if_neg (by simp;omega)]
 simp only[aa]
 have hkeys:List.map (fun e:bP×Bool=>e.1) es=L:=by rw[hG.es,List.map_map];exact List.map_id' L
 rw[hkeys]
 exact Cd ⟨L,List.Perm.refl _⟩ fun p hp=>KD hS hR kk hL hG.nd h3 _ rfl hk p [] [] [] [] [] hp GR.nil (Nat.zero_le _) fun e=>by simp
end
end G
end
section
open G
namespace G
theorem EC{a b:List Nat}(h:a.Perm b)(ha:a.Pairwise (· < ·))(hb:b.Pairwise (· < ·)):a=b:=
 List.Perm.eq_of_pairwise (le:=(· <= ·)) (fun x y _ _ h1 h2=>Nat.le_antisymm h1 h2) (ha.imp Nat.le_of_lt) (hb.imp Nat.le_of_lt) h
theorem Pl{w:Nat}:∀{l:List Nat},l.Pairwise (· < ·)->∀{h:Nat} (hh:h<l.length),l[h]<w↔h<(l.filter fun x=>decide (x<w)).length
 |[],_,_,hh=>absurd hh (Nat.not_lt_zero _)
 |x::l,hs,h,hh=>by
  obtain⟨h1,h2⟩:=List.pairwise_cons.1 hs;rw[List.filter_cons];by_cases hx:x<w
  . rw[if_pos (aH hx),bK]
    cases h with
    |zero=>simp[hx]
    |succ h=>rw[List.getElem_cons_succ,Pl h2 (by simpa using hh)];omega
  . rw[if_neg (by simpa using hx)];have:(l.filter fun x=>decide (x<w))=[]:=by
     rw[List.filter_eq_nil_iff];intro y hy;have:=h1 y hy;simp;omega
    rw[this]
    cases h with
    |zero=>simp;omega
    |succ h=>
     rw[List.getElem_cons_succ]
     have:=h1 _ (aA (by simpa using hh:h<l.length))
     simp;omega
def AA(l:List Nat)(w:Nat):Nat:=(l.filter fun x=>decide (x<w)).length
theorem PF(l:List Nat)(w:Nat):AA l w<=l.length:=bC _ _
theorem aey{l:List Nat}(hs:l.Pairwise (· < ·))(w:Nat)(hn:l.length<=1000):∃b,gl (zn l) (w:Int)=some ((AA l w:Int),b):=by
 have hp:=PF l w;have key:∃r,Iter (ij (zn l) (w:Int)) ((0:Int),((zn l).length:Int))=some r/\r=(AA l w:Int):=by
  refine ck (fun m s=>∃i j:Nat,s=((i:Int),(j:Int))/\i<=AA l w/\AA l w<=j/\j<=l.length/\m=j-i) (fun r=>r=(AA l w:Int)) (fun m s hI=>?_) l.length _ ⟨0,l.length,by rw[dC];rfl,Nat.zero_le _,hp,Nat.le_refl _,by omega⟩;obtain⟨i,j,rfl,h1,h2,h3,rfl⟩:=hI;unfold ij;by_cases hij:i<j
  . rw[if_pos (by simp only;omega)];simp only;rw[Tg (k:=i+j) (by omega) (by omega)];have hm:(i+j)/2<l.length:=by omega
    rw[BQ hm];have hlt:=Pl (w:=w) hs hm;have hlt:l[(i+j)/2]<w↔(i+j)/2<AA l w:=hlt;have hless:dE ((l[(i+j)/2]:Nat):Int) (w:Int)=some (decide (l[(i+j)/2]<w)):=by
     unfold dE iP;simp
    simp only[aa,hless];by_cases hc:l[(i+j)/2]<w
    . rw[aH hc,if_pos rfl,dk hm (by omega)];exact .inl ⟨_,_,rfl,by omega,(i+j)/2+1,j,rfl,by omega,h2,h3,rfl⟩
    . rw[decide_eq_false hc,if_neg (by simp)];exact .inl ⟨_,_,rfl,by omega,i,(i+j)/2,rfl,h1,by omega,by omega,rfl⟩
  . rw[if_neg (by simp only;omega)];exact .inr ⟨_,rfl,by simp only;omega⟩
 obtain⟨r,e,rfl⟩:=key;unfold gl;rw[e];simp only[aa];split
 . rename_i hlt;rw[dC]at hlt;rw[BQ (by omega)];simp only[aa];split
   . exact⟨_,rfl⟩
   . unfold so;simp
 . exact⟨_,rfl⟩
theorem QT{l:List Nat}(hs:l.Pairwise (· < ·)){w:Nat}(hw:w ∉ l):(l.take (AA l w)++([w]++l.drop (AA l w))).Pairwise (· < ·):=by
 have hp:=PF l w;rw[List.pairwise_append];refine⟨hs.take,?_,fun a ha b hb=>?_⟩
 . rw[List.singleton_append,List.pairwise_cons];refine⟨fun a ha=>?_,hs.drop⟩;obtain⟨i,hi,rfl⟩:=bF.1 ha;rw[aV]at hi;rw[List.getElem_drop];have:=Pl (w:=w) hs (show AA l w+i<l.length by omega);have h2:¬ l[AA l w+i]<w:=fun h=>by have:=this.1 h;unfold AA at this;omega
   have h3:l[AA l w+i]≠w:=fun e=>hw (by rw[<- e];exact aA _)
   omega
 . obtain⟨i,hi,rfl⟩:=bF.1 ha;rw[aN]at hi;have h1:l[i]<w:=(Pl hs (by omega)).2 (by unfold AA at hi;omega);rw[List.getElem_take];rw[List.singleton_append]at hb;rcases aZ.1 hb with rfl|hb
   . exact h1
   . obtain⟨j,hj,rfl⟩:=bF.1 hb;rw[aV]at hj;rw[List.getElem_drop];exact aX.1 hs _ _ _ _ (by omega)
theorem X7{l:List Nat}{w x:Nat}:x∈l.take (AA l w)++([w]++l.drop (AA l w))↔x=w\/x∈l:=by
 rw[aK,aK,List.mem_singleton]
 conv=>rhs;rw[<- List.take_append_drop (AA l w) l,aK]
 exact⟨fun h=>by rcases h with h|h|h<;>simp[h],fun h=>by rcases h with h|h|h<;>simp[h]⟩
theorem Vs{l:List Nat}(hs:l.Pairwise (· < ·)){w:Nat}(hw:w ∉ l)(hn:l.length<=1000){T:List Nat}(hT:T.Pairwise (· < ·))(hm:∀x,x∈T↔x=w\/x∈l):kz (AA l w:Int) [(w:Int)] (zn l)=some (zn T):=by
 have hp:=PF l w;unfold kz Al;rw[if_pos ⟨by omega,by rw[dC];omega,by simp,by rw[dC];simp;omega⟩,aM,Vl,ab2];congr 1;have e:T=l.take (AA l w)++([w]++l.drop (AA l w)):=by
  have h2:=QT hs hw;refine EC ((List.perm_ext_iff_of_nodup (hT.imp fun h e=>by omega) (h2.imp fun h e=>by omega)).2 fun x=>?_) hT h2;rw[hm,X7]
 rw[e,sP,sP];rfl
def rK(R:Nat->Nat->Bool)(K:List Nat)(x:Nat):Nat:=(K.filter fun u=>R u x).length
def pf(R:Nat->Nat->Bool):Nat->List Nat->List Nat->List Nat×List Nat
 |0,K,out=>(K,out)
 |m+1,K,out=>match K.find? fun x=>decide (rK R K x=0)with
  |none=>(K,out)
  |some v=>pf R m (K.filter fun x=>decide (x≠v)) (out++[v])
theorem Ay{K:List Nat}(hn:K.Nodup){v:Nat}(hv:v∈K):K.Perm (v::K.filter fun x=>decide (x≠v)):=by
 refine(List.perm_ext_iff_of_nodup hn (List.nodup_cons.2 ⟨by simp,List.Pairwise.filter _ hn⟩)).2 fun x=>?_
 rw[aZ,ba,au];by_cases e:x=v
 . subst e;simp[hv]
 . simp[e]
theorem aaq{R:Nat->Nat->Bool}{K:List Nat}(hn:K.Nodup){v:Nat}(hv:v∈K)(x:Nat):rK R K x=rK R (K.filter fun x=>decide (x≠v)) x+if R v x=true then 1 else 0:=by
 unfold rK;rw[((Ay hn hv).filter _).length_eq,List.filter_cons];split<;>simp
theorem acQ(R:Nat->Nat->Bool)(K:List Nat)(x:Nat):rK R K x<=K.length:=bC _ _
theorem J0{R:Nat->Nat->Bool}{K:List Nat}{x:Nat}:rK R K x=0↔∀u∈K,R u x=false:=by
 unfold rK;rw[List.length_eq_zero_iff,List.filter_eq_nil_iff];simp
section
variable {n:Nat}{R:Nat->Nat->Bool}{es:List (bP×Bool)}{out oi:List (Int×List Int)}
theorem aaL{q:Nat->Bool}{K:List Nat}(hK:K=(List.range n).filter q)(k:Nat):((ins R n k).filter fun u=>decide (u∈K)).length=rK R K k:=by
 unfold ins rK;rw[List.filter_filter]
 conv=>rhs;rw[hK]
 rw[List.filter_filter];congr 1;refine bI fun u hu=>?_
 have:decide (u∈K)=q u:=by
  rw[hK,Bool.eq_iff_iff,au,ig];have:=List.mem_range.1 hu;simp[this]
 rw[this,Bool.and_comm]
theorem aau(h:PG n R es out oi)(hn:n<50){q:Nat->Bool}{K:List Nat}(hK:K=(List.range n).filter q){k:Nat}(hk:k∈K)(f:Nat->Int)(hf:f k=0):
 vy (n:Int) es out oi (k:Int) (mk K f)=some (.inl (mk K (Z2 f k (rK R K k)))):=by
 have hkn:k<n:=by rw[hK]at hk;exact(ig.1 hk).1
 unfold vy
 rw[h.In hn hkn]
 simp only[aa]
 have hl:(ins R n k).length<=n:=my n fun u=>R u k
 refine cb (f:=vz (k:Int) (zn (ins R n k))) (ins R n k).length (fun t=>((t:Int),mk K (Z2 f k (((ins R n k).take t).filter fun u=>decide (u∈K)).length))) _ (fun t ht=>?_) ?_ ?_
 . unfold vz
   rw[if_pos (by rw[dC];omega),BQ ht]
   simp only[aa,LO,dk ht (by omega)]
   have htk:=aB ht
   have hle:(((ins R n k).take t).filter fun u=>decide (u∈K)).length<=n:=Nat.le_trans (bC _ _) (by rw[aN];omega)
   by_cases hu:(ins R n k)[t]∈K
   . rw[if_pos hu,if_pos (by rfl),if_pos hk,dX (by rfl)]
     simp only[aa,Option.getD_some]
     rw[Yv hk]
     refine congrArg (fun x=>some (Sum.inl (_,x))) (mk_congr fun x _=>?_)
     unfold Z2
     by_cases e:x=k
     . rw[if_pos e,if_pos e,if_pos rfl,fm (by omega) (by omega),htk,List.filter_append,ak]
       simp[hu]
     . rw[if_neg e,if_neg e,if_neg e]
   . rw[if_neg hu,if_neg (by simp)]
     refine congrArg (fun x=>some (Sum.inl (_,x))) (mk_congr fun x _=>?_)
     rw[htk,List.filter_append]
     simp[hu]
 . unfold vz
   rw[if_neg (by rw[dC];omega),bn,aaL hK]
 . refine congrArg (fun x=>((0:Int),x)) (mk_congr fun x _=>?_)
   unfold Z2
   split
   . rename_i e;rw[e,hf];simp
   . rfl
theorem XQ(h:PG n R es out oi)(hn:n<50){q:Nat->Bool}{K:List Nat}(hK:K=(List.range n).filter q):∀(p done:List Int),(done++p).Perm (zn K)->
 pR (vy (n:Int) es out oi) yX p (mk K fun x=>if(x:Int)∈done then(rK R K x:Int)else 0)=some (mk K fun x=>(rK R K x:Int))
 |[],done,hp=>by
  rw[aL]at hp;unfold pR yX;refine congrArg some (mk_congr fun x hx=>?_);rw[if_pos (hp.mem_iff.2 (rJ.2 hx))]
 |x::p,done,hp=>by
  obtain⟨k,hk,rfl⟩:=Hp.1 (hp.mem_iff.1 (by simp:x∈done++x::p));have hKn:K.Nodup:=by rw[hK];exact rl _ _
  have hnd:=(hp.nodup_iff).2 (R9 hKn);have hkd:(k:Int) ∉ done:=fun hd=>(List.nodup_append.1 hnd).2.2 _ hd _ (ax ..) rfl
  unfold pR;rw[aau h hn hK hk _ (if_neg hkd)];simp only[aa];rw[<- XQ h hn hK p (done++[(k:Int)]) (by rw[az];exact hp)];refine congrArg _ (mk_congr fun y _=>?_);unfold Z2;by_cases e:y=k
  . subst e;rw[if_pos rfl,if_pos (by simp)]
  . rw[if_neg e];have:((y:Int)∈done++[(k:Int)])↔(y:Int)∈done:=by simp;omega
    simp only[this]
theorem aaS{S:List Nat}(hS:S.length<=1000)(hn:n<50):Iter (rF (zn S) (n:Int)) ((0:Int),([]:List (Int×Int)))=some (mk ((List.range n).filter fun x=>decide (x ∉ S)) fun _=>0):=by
 refine ue (f:=rF (zn S) (n:Int)) n (fun x=>decide (x ∉ S)) (fun k acc=>((k:Int),mk acc fun _=>0)) _ (fun k hk=>?_) ?_ rfl
 . unfold rF;rw[if_pos (by simp only;omega),rL _ _ (by rw[dC];omega)];simp only[aa,dk hk (by omega),rJ];by_cases h:k∈S
   . rw[if_neg (by simp[h]),if_neg (by simp[h]),aL]
   . rw[if_pos (by simp[h]),if_pos (by simp[h]),adp (fun hm=>by have:=(ig.1 hm).1;omega) rfl]
 . unfold rF;rw[if_neg (by simp)]
theorem Y6(hn:n<50){q:Nat->Bool}{K:List Nat}(hK:K=(List.range n).filter q)(f:Nat->Int):Iter (rG (mk K f) (n:Int)) ((0:Int),([]:List Int))=some (zn (K.filter fun x=>decide (f x=0))):=by
 have e:(K.filter fun x=>decide (f x=0))=(List.range n).filter fun x=>decide (x∈K)&&decide (f x=0):=by
  conv=>lhs;rw[hK]
  rw[List.filter_filter];refine bI fun u hu=>?_
  have:decide (u∈K)=q u:=by
   rw[hK,Bool.eq_iff_iff,au,ig];have:=List.mem_range.1 hu;simp[this]
  rw[this,Bool.and_comm]
 rw[e];refine ue (f:=rG (mk K f) (n:Int)) n (fun x=>decide (x∈K)&&decide (f x=0)) (fun k acc=>((k:Int),zn acc)) _ (fun k hk=>?_) ?_ rfl
 . unfold rG;rw[if_pos (by simp only;omega)];simp only[LO,dk hk (by omega)];by_cases h:k∈K
   . rw[if_pos h];simp only[Option.isSome_some,if_true,aa,Option.getD_some];by_cases h2:f k=0
     . rw[if_pos (by simp[h2]),dj (by rw[dC];have:=my k fun x=>decide (x∈K)&&decide (f x=0);simp;omega)];simp only[aa];rw[if_pos (by simp[h,h2]),sP];rfl
     . rw[if_neg (by simp[h2]),if_neg (by simp[h2]),aL]
   . rw[if_neg h];simp[h]
 . unfold rG;rw[if_neg (by simp)]
def dg(R:Nat->Nat->Bool)(K W:List Nat)(x:Nat):Int:=(rK R K x:Int)-if x∈W then 1 else 0
theorem Ze(hn:n<50){q:Nat->Bool}{K:List Nat}(hK:K=(List.range n).filter q){v:Nat}(hv:v∈K)(y23:List Int):
 Iter (rI y23 (zn (outs R n v))) ((0:Int),mk (K.filter fun x=>decide (x≠v)) (fun x=>(rK R K x:Int)),zn ((K.filter fun x=>decide (x≠v)).filter fun x=>decide ((rK R K x:Int)=0)))=
  some (.inl (mk (K.filter fun x=>decide (x≠v)) (fun x=>(rK R (K.filter fun x=>decide (x≠v)) x:Int)),y23,zn ((K.filter fun x=>decide (x≠v)).filter fun x=>decide ((rK R (K.filter fun x=>decide (x≠v)) x:Int)=0)))):=by
 have hKn:K.Nodup:=by rw[hK];exact rl _ _
 have hKl:K.length<=n:=by rw[hK];exact my _ _
 have hKs:K.Pairwise (· < ·):=by rw[hK];exact AD _ _
 have hlast:∀x∈K.filter (fun x=>decide (x≠v)),dg R K (outs R n v) x=(rK R (K.filter fun x=>decide (x≠v)) x:Int):=fun x hx=>by
  have hxn:x<n:=by
   have:=(ba.1 hx).1;rw[hK]at this;exact(ig.1 this).1
  unfold dg;rw[aaq hKn hv x];have:x∈outs R n v↔R v x=true:=by unfold outs;rw[ig];simp[hxn]
  simp only[this];split<;>omega
 generalize hK':(K.filter fun x=>decide (x≠v))=K' at*
 have hKs':K'.Pairwise (· < ·):=by rw[<- hK'];exact hKs.filter _
 have hKl':K'.length<=n:=by rw[<- hK'];exact Nat.le_trans (bC _ _) hKl
 have hWn:(outs R n v).Nodup:=rl _ _
 have hWl:(outs R n v).length<=n:=my _ _
 have hWR:∀x∈outs R n v,R v x=true:=fun x hx=>(ig.1 hx).2
 generalize outs R n v=W at*
 refine cb (f:=rI y23 (zn W)) W.length (fun t=>((t:Int),mk K' (dg R K (W.take t)),zn (K'.filter fun x=>decide (dg R K (W.take t) x=0)))) _ (fun t ht=>?_) ?_ ?_
 . unfold rI
   rw[if_pos (by rw[dC];omega),BQ ht]
   have htk:=aB ht
   have hnt:W[t] ∉ W.take t:=fun hm=>by
    obtain⟨i,hi,e⟩:=bF.1 hm;rw[aN]at hi;rw[List.getElem_take]at e;have:=(List.nodup_iff_pairwise_ne.1 hWn);exact aX.1 this i t (by omega) ht (by omega) e
   have hsame:∀x,x≠W[t]->dg R K (W.take (t+1)) x=dg R K (W.take t) x:=fun x hx=>by
    unfold dg;have:x∈W.take (t+1)↔x∈W.take t:=by rw[htk,aK,List.mem_singleton];simp[hx]
    simp only[this]
   simp only[aa,LO,dk ht (by omega)]
   have hfin:∀(f:Nat->Int) (rd:List Int),mk K' f=mk K' (dg R K (W.take (t+1)))->rd=zn (K'.filter fun x=>decide (dg R K (W.take (t+1)) x=0))->(some (Sum.inl (((t+1:Nat):Int),mk K' f,rd)):Option ((Int×(List (Int×Int))×(List Int))⊕(((List (Int×Int))×(List Int)×(List Int))⊕((List (Int×Int))×(List Int)))))=some (Sum.inl (((t+1:Nat):Int),mk K' (dg R K (W.take (t+1))),zn (K'.filter fun x=>decide (dg R K (W.take (t+1)) x=0)))):=fun f rd e1 e2=>by rw[e1,e2]
   by_cases hw:W[t]∈K'
   . rw[if_pos hw,if_neg (by simp)]
     have hc:=acQ R K W[t]
     have hc1:1<=rK R K W[t]:=Nat.pos_of_ne_zero fun h0=>by
      have:=J0.1 h0 v hv;rw[hWR _ (aA ht)]at this;cases this
     have hd0:dg R K (W.take t) W[t]=(rK R K W[t]:Int):=by unfold dg;rw[if_neg hnt];omega
     have hd1:dg R K (W.take (t+1)) W[t]=(rK R K W[t]:Int)-1:=by unfold dg;rw[if_pos (by rw[htk,aK,List.mem_singleton];exact .inr rfl)]
     simp only[Option.getD_some]
     rw[Yv hw,LO,if_pos hw,hd0,fm (by omega) (by omega)]
     have hmk:mk K' (Z2 (dg R K (W.take t)) W[t] ((rK R K W[t]:Int)-1))=mk K' (dg R K (W.take (t+1))):=mk_congr fun x _=>by
      unfold Z2;split
      . rename_i e;rw[e,hd1]
      . rename_i e;rw[hsame x e]
     have hup:Z2 (dg R K (W.take t)) W[t] ((rK R K W[t]:Int)-1) W[t]=(rK R K W[t]:Int)-1:=if_pos rfl
     simp only[Option.getD_some,hup]
     by_cases hz:(rK R K W[t]:Int)-1=0
     . rw[if_pos hz]
       have hrs:(K'.filter fun x=>decide (dg R K (W.take t) x=0)).Pairwise (· < ·):=hKs'.filter _
       have hrl:(K'.filter fun x=>decide (dg R K (W.take t) x=0)).length<=1000:=Nat.le_trans (bC _ _) (by omega)
       obtain⟨b,hb⟩:=aey hrs W[t] hrl
       rw[hb]
       simp only[aa]
       rw[Vs hrs (fun hm=>by
        have:=aF (ba.1 hm).2;omega) hrl (T:=K'.filter fun x=>decide (dg R K (W.take (t+1)) x=0)) (hKs'.filter _) fun x=>by
         rw[ba,ba,au,au];by_cases e:x=W[t]
         . subst e;simp only[hw,hd1,hz,true_or,and_self]
         . rw[hsame x e];simp[e]]
       simp only[aa]
       exact hfin _ _ hmk rfl
     . rw[if_neg hz]
       refine hfin _ _ hmk (congrArg zn (bI fun x _=>?_))
       by_cases e:x=W[t]
       . subst e
         rw[decide_eq_false (by omega),decide_eq_false (by omega)]
       . rw[hsame x e]
   . rw[if_neg hw,if_pos (by simp)]
     have hne:∀x∈K',x≠W[t]:=fun x hx e=>hw (by rw[<- e];exact hx)
     refine hfin _ _ (mk_congr fun x hx=>(hsame x (hne x hx)).symm) (congrArg zn (bI fun x hx=>?_))
     rw[hsame x (hne x hx)]
 . unfold rI
   rw[if_neg (by rw[dC];omega),bn,mk_congr hlast]
   refine congrArg (fun x=>some (Sum.inr (Sum.inl (_,_,zn x)))) (bI fun x hx=>?_)
   rw[hlast x hx]
 . have:∀x,dg R K (W.take 0) x=(rK R K x:Int):=fun x=>by unfold dg;simp
   show(((0:Int),_,_):Int×List (Int×Int)×List Int)=((0:Int),_,_)
   rw[mk_congr fun x (_:x∈K')=>this x,bI (p:=fun x=>decide (dg R K (W.take 0) x=0)) fun x _=>by rw[this x]]
theorem UL(h:PG n R es out oi)(hn:n<50):∀(m:Nat) (q:Nat->Bool) (K o:List Nat),K=(List.range n).filter q->K.length<=m->o.length+m<=1000->
 Iter (rH (n:Int) es out oi) (mk K (fun x=>(rK R K x:Int)),zn o,zn (K.filter fun x=>decide ((rK R K x:Int)=0)))=some (mk (pf R m K o).1 (fun x=>(rK R (pf R m K o).1 x:Int)),zn (pf R m K o).2)
 |m,q,K,o,hK,hm,ho=>by
  have hf:∀(l:List Nat) (p:Nat->Bool),l.find? p=(l.filter p).head?:=fun l p=>by rw[List.head?_filter]
  have hpp:(fun x=>decide ((rK R K x:Int)=0))=fun x=>decide (rK R K x=0):=by
   funext x;rw[aW];omega
  cases hh:K.filter fun x=>decide ((rK R K x:Int)=0)with
  |nil=>
   have hk:pf R m K o=(K,o):=by
    cases m with
    |zero=>rfl
    |succ m=>unfold pf;rw[hf,<- hpp,hh];rfl
   rw[hk]
   refine fS ?_
   unfold rH
   rw[if_neg (by simp[zn])]
  |cons v rest=>
   have hvm:v∈K:=(ba.1 (by rw[hh];exact ax .. :v∈K.filter fun x=>decide ((rK R K x:Int)=0))).1
   have hKn:K.Nodup:=by rw[hK];exact rl _ _
   have hvn:v<n:=by rw[hK]at hvm;exact(ig.1 hvm).1
   cases m with
   |zero=>rw[List.length_eq_zero_iff.1 (Nat.le_zero.1 hm)]at hvm;cases hvm
   |succ m=>
    have hk:pf R (m+1) K o=pf R m (K.filter fun x=>decide (x≠v)) (o++[v]):=by
     conv=>lhs;unfold pf
     rw[hf,<- hpp,hh];rfl
    have hrest:rest=(K.filter fun x=>decide (x≠v)).filter fun x=>decide ((rK R K x:Int)=0):=by
     have h1:(v::rest).Nodup:=by rw[<- hh];exact List.Pairwise.filter _ hKn
     have h2:=(List.nodup_cons.1 h1).1;have:(v::rest).filter (fun x=>decide (x≠v))=rest:=by
      rw[List.filter_cons,if_neg (by simp),List.filter_eq_self];intro x hx;simp only[au];exact fun e=>h2 (by rw[<- e];exact hx)
     rw[<- this,<- hh,List.filter_filter,List.filter_filter];exact bI fun x _=>Bool.and_comm _ _
    have hstep:rH (n:Int) es out oi (mk K (fun x=>(rK R K x:Int)),zn o,zn (v::rest))=some (.inl (mk (K.filter fun x=>decide (x≠v)) (fun x=>(rK R (K.filter fun x=>decide (x≠v)) x:Int)),zn (o++[v]),zn ((K.filter fun x=>decide (x≠v)).filter fun x=>decide ((rK R (K.filter fun x=>decide (x≠v)) x:Int)=0)))):=by
     unfold rH;have hx:idx (zn (v::rest)) 0=some (v:Int):=rfl;have hd:qS (zn (v::rest)) 1=some (zn rest):=by rw[Fv (by simp[zn];omega)];rfl
     rw[if_pos (by simp[zn])];simp only[hx,hd,aa];rw[dj (by rw[dC];simp;omega)];simp only[aa];rw[h.Out hn hvn];simp only[aa];rw[adn,hrest,Ze hn hK hvm,sP];rfl
    rw[jB hstep,hk]
    exact UL h hn m (fun x=>q x&&decide (x≠v)) _ _ (by
     conv=>lhs;rw[hK]
     rw[List.filter_filter];exact bI fun x _=>Bool.and_comm _ _) (by
     have:=(Ay hKn hvm).length_eq;simp only[bK]at this;omega) (by simp;omega)
def K0(n:Nat)(S:List Nat):List Nat:=(List.range n).filter fun x=>decide (x ∉ S)
theorem N6(h:PG n R es out oi)(hn:n<50){S:List Nat}(hS:S.length<=1000):
 wZ (zn S) (n:Int) es out oi=some (zn (pf R n (K0 n S) []).2,mk (pf R n (K0 n S) []).1 fun x=>(rK R (pf R n (K0 n S) []).1 x:Int)):=by
 have hK:K0 n S=(List.range n).filter fun x=>decide (x ∉ S):=rfl
 unfold wZ gJ
 simp only[aa]
 rw[aaS hS hn,<- hK]
 simp only[aa]
 rw[aaY,Cd (P:=fun p:List Int=>p.Perm (zn (K0 n S))) (r:=mk (K0 n S) fun x=>(rK R (K0 n S) x:Int)) ⟨_,List.Perm.refl _⟩ fun p hp=>by
  have:=XQ h hn hK p [] hp;simpa using this]
 simp only[aa]
 rw[Y6 hn hK]
 simp only[aa]
 have:=UL h hn n _ (K0 n S) [] hK (my _ _) (by simp;omega)
 rw[show zn []=[] from rfl]at this
 rw[this];rfl
end
end G
end
section
open G
namespace G
inductive TC(R:Nat->Nat->Bool):Nat->Nat->Prop where
 |one {i j:Nat} (h:R i j=true):TC R i j
 |cons {i k j:Nat} (h:R i k=true) (t:TC R k j):TC R i j
theorem TC.snoc{R:Nat->Nat->Bool}{i k j:Nat}(h:TC R i k)(hr:R k j=true):TC R i j:=by
 induction h with
 |one h=>exact .cons h (.one hr)
 |cons h _ ih=>exact .cons h (ih hr)
theorem TC.last{R:Nat->Nat->Bool}{i j:Nat}(h:TC R i j):R i j=true\/∃k,TC R i k/\R k j=true:=by
 induction h with
 |one h=>exact .inl h
 |cons h t ih=>
  rcases ih with h2|⟨k,h2,h3⟩
  . exact .inr ⟨_,.one h,h2⟩
  . exact .inr ⟨k,.cons h h2,h3⟩
theorem TC.fst{R:Nat->Nat->Bool}{i j:Nat}(h:TC R i j):∃k,R i k=true:=by cases h with|one h=>exact⟨_,h⟩|cons h _=>exact⟨_,h⟩
open Classical in
noncomputable def Y3(R:Nat->Nat->Bool)(n v:Nat):List Nat:=(List.range n).filter fun t=>decide (TC R v t)
open Classical in
noncomputable def vB(R:Nat->Nat->Bool)(n:Nat)(S:List Nat):List Nat:=(List.range n).filter fun v=>decide (TC (wo R S) v v)
open Classical in
theorem PJ{R:Nat->Nat->Bool}{n v t:Nat}:t∈Y3 R n v↔t<n/\TC R v t:=by unfold Y3;rw[ig,au]
open Classical in
theorem A8{R:Nat->Nat->Bool}{n:Nat}{S:List Nat}{v:Nat}:v∈vB R n S↔v<n/\TC (wo R S) v v:=by unfold vB;rw[ig,au]
theorem CI:∀(n:Nat) (T:List Nat),T.Nodup->(∀t∈T,t<n)->T.length<=n
 |0,T,_,h=>by
  cases T with
  |nil=>exact Nat.le_refl _
  |cons x T=>exact absurd (h x (ax ..)) (Nat.not_lt_zero _)
 |n+1,T,hn,h=>by
  by_cases hm:n∈T
  . rw[(Ay hn hm).length_eq,bK];refine Nat.succ_le_succ (CI n _ (List.Pairwise.filter _ hn) fun t ht=>?_);obtain⟨h1,h2⟩:=ba.1 ht;have:=h t h1;have h2:=aF h2;omega
  . exact Nat.le_succ_of_le (CI n T hn fun t ht=>by
     have:=h t ht;have:t≠n:=fun e=>hm (by rw[<- e];exact ht)
     omega)
theorem ab3{x:List Int}{w:List Nat}(h:x.Perm (zn w)):∃a:List Nat,x=zn a/\a.Perm w:=by
 refine⟨x.map Int.toNat,?_,?_⟩
 . unfold zn;rw[List.map_map]
   conv=>lhs;rw[<- List.map_id x]
   refine List.map_congr_left fun y hy=>?_
   obtain⟨k,_,rfl⟩:=Hp.1 (h.mem_iff.1 hy);simp
 . have:=h.map Int.toNat;unfold zn at this;rw[List.map_map]at this;have e:w.map (Int.toNat ∘ fun k:Nat=>(k:Int))=w:=by
    conv=>rhs;rw[<- List.map_id w]
    exact List.map_congr_left fun _ _=>by simp
   rw[e]at this;exact this
def UM(T:List Nat):List (Int×Bool):=T.map fun k:Nat=>((k:Int),true)
theorem UN(T:List Nat)(k:Nat):((UM T).any fun p=>dn (k:Int) p.1)=decide (k∈T):=by
 rw[Bool.eq_iff_iff,bH,au];unfold UM;constructor
 . rintro⟨p,hp,he⟩;obtain⟨j,hj,rfl⟩:=List.mem_map.1 hp;have:=(gK _ _).1 he;obtain rfl:k=j:=by simp only at this;omega
   exact hj
 . exact fun h=>⟨_,List.mem_map.2 ⟨k,h,rfl⟩,gK.refl _⟩
theorem aaZ(T:List Nat)(k:Nat):(dT dn (UM T) (k:Int)).getD false=decide (k∈T):=by
 cases h:dT dn (UM T) (k:Int)with
 |none=>
  rw[Au,UN]at h
  rw[h];rfl
 |some b=>
  have hm:=NU gK h
  obtain⟨j,hj,e⟩:=List.mem_map.1 hm
  simp only[aD]at e
  obtain rfl:j=k:=by omega
  rw[<- e.2,aH hj];rfl
theorem aa0{T:List Nat}{k:Nat}(h:k ∉ T):lP dn (UM T) (k:Int) true=UM (T++[k]):=by
 unfold lP;rw[UN,if_neg (by simp[h])];unfold UM;rw[aY];rfl
theorem Vp(l:List Int)(h:l.length<=1000000):mz l=some l:=by
 unfold mz;rw[dj (by simp;omega)]
 cases l with
 |nil=>exact EO _
 |cons x l=>rfl
theorem NF{γ:Type}(kk:((List (Int×Bool))×(List Int))->Option γ)(a1:List (Int×Bool)):∀(p acc:List Int),acc.length+p.length<=1000->
 pR cF (dq kk) p (a1,acc)=kk (a1,acc++p)
 |[],acc,_=>by
  unfold pR dq;rw[aL];simp
 |x::p,acc,h=>by
  rw[bK]at h;have hs:cF (γ:=γ) x (a1,acc)=some (.inl (a1,acc++[x])):=by
   unfold cF fL;simp only;rw[dj (by simp;omega)];rfl
  unfold pR;rw[hs];simp only[aa];rw[NF kk a1 p _ (by simp;omega),az];rfl
theorem MT{T:List Nat}(hT:T.Nodup){w:List Nat}(hw:T.Perm w)(hs:w.Pairwise (· < ·))(hn:w.length<50):∃z,df (UM T)=some (z,zn w):=by
 refine⟨UM T,?_⟩;have hl:=hw.length_eq;unfold df dR dh dB;have hk:(UM T).map (fun e=>e.1)=zn T:=by unfold UM zn;rw[List.map_map];rfl
 rw[hk];refine Cd ⟨_,List.Perm.refl _⟩ fun p hp=>?_
 have hpl:=hp.length_eq;rw[dC]at hpl;rw[NF _ _ p [] (by simp;omega)];simp only[a7,Option.map_id'];obtain⟨r,e,h1,h2⟩:=QO.tu p (by omega);rw[e];simp only[aa];rw[Og (h1.trans (hp.trans (hw.map _))) h2 (I2 hs)];rfl
section
variable {n:Nat}{R:Nat->Nat->Bool}{es:List (bP×Bool)}{out oi:List (Int×List Int)}
theorem Xt(h:PG n R es out oi)(hn:n<50)(hb:∀i j,R i j=true->i<n/\j<n){v:Nat}(hv:v<n)(N:Int)(e2:List (bP×Bool))(i2:List (Int×List Int)):oy (v:Int) N e2 out i2=some (zn (Y3 R n v)):=by
 have hraw:∀{w:Nat},w<n->∃a:List Nat,(dT dn out (w:Int)).getD []=zn a/\a.length<=n/\∀x,x∈a↔R w x=true:=fun{w} hw=>by
  obtain⟨a,h1,h2⟩:=ab3 (h.GU hw);refine⟨a,h1,by rw[h2.length_eq];exact my _ _,fun x=>?_⟩;rw[h2.mem_iff];unfold outs;rw[ig];exact⟨fun h=>h.2,fun h=>⟨(hb _ _ h).2,h⟩⟩
 obtain⟨a,ha,hal,ham⟩:=hraw hv;have hnn:n*(n+1)<=49*50:=Nat.mul_le_mul (by omega) (by omega);have key:∃r,Iter (pX out) (([]:List (Int×Bool)),zn a)=some r/\∃T:List Nat,r=UM T/\T.Nodup/\∀t,t∈T↔TC R v t:=by
  refine ck (fun m s=>∃T Sk:List Nat,s=(UM T,zn Sk)/\T.Nodup/\(∀t∈T,t<n/\TC R v t)/\(∀t∈Sk,t<n/\TC R v t)/\(∀w,R v w=true->w∈T\/w∈Sk)/\(∀t∈T,∀w,R t w=true->w∈T\/w∈Sk)/\m=(n-T.length)*(n+1)+Sk.length/\m<=3000)
   (fun r=>∃T:List Nat,r=UM T/\T.Nodup/\∀t,t∈T↔TC R v t) (fun m s hI=>?_) ((n-0)*(n+1)+a.length) _ ⟨[],a,rfl,List.nodup_nil,by simp,fun t ht=>?_,fun w hw=>.inr ((ham w).2 hw),by simp,rfl,by simp;omega⟩
  . obtain⟨T,Sk,rfl,i1,i2,i3,i4,i5,rfl,i6⟩:=hI;unfold pX;rcases List.eq_nil_or_concat Sk with rfl|⟨Sk1,w,e⟩
    . rw[if_neg (by simp[zn])];refine .inr ⟨_,rfl,T,rfl,i1,fun t=>⟨fun ht=>(i2 t ht).2,fun ht=>?_⟩⟩;have clo:∀i t,TC R i t->(∀w,R i w=true->w∈T)->t∈T:=fun i t h=>by
       induction h with
       |one h=>exact fun hc=>hc _ h
       |cons h _ ih=>exact fun hc=>ih fun w hw=>by simpa using i5 _ (hc _ h) w hw
      exact clo v t ht fun w hw=>by simpa using i4 w hw
    . rw[List.concat_eq_append]at e;subst e;generalize Sk1=Sk at*
      have hl:(zn (Sk++[w])).length=Sk.length+1:=by rw[dC];simp
      rw[ak,bp]at i6 ⊢;rw[if_pos (by simp only[hl];omega)];simp only[hl];rw[fm (by omega) (by omega),uo 0 (k:=Sk.length) (by omega) (by rw[hl];omega)];have hg:(zn (Sk++[w])).getD Sk.length 0=(w:Int):=by rw[sP];simp[zn]
      rw[hg,AG (by rw[hl];omega)];have ht:(zn (Sk++[w])).take (((Sk.length+1:Nat):Int)-1).toNat=zn Sk:=by
       rw[show(((Sk.length+1:Nat):Int)-1).toNat=Sk.length by omega,Vl];simp
      rw[ht];simp only[aa,aaZ];have hw:=i3 w (by simp);by_cases hm:w∈T
      . rw[if_pos (aH hm)];refine .inl ⟨_,_,rfl,?_,T,Sk,rfl,i1,i2,fun t ht=>i3 t (by simp[ht]),fun x hx=>?_,fun t ht x hx=>?_,rfl,by omega⟩
        . omega
        . rcases i4 x hx with e|e
          . exact .inl e
          . rcases aK.1 e with e|e
            . exact .inr e
            . rw[List.mem_singleton.1 e];exact .inl hm
        . rcases i5 t ht x hx with e|e
          . exact .inl e
          . rcases aK.1 e with e|e
            . exact .inr e
            . rw[List.mem_singleton.1 e];exact .inl hm
      . rw[if_neg (by simp[hm])];obtain⟨b,hb1,hb2,hb3⟩:=hraw hw.1;rw[hb1,dj (by rw[dC,dC];omega),<- sP];simp only[aa];rw[aa0 hm];have hnd:(T++[w]).Nodup:=by rw[List.nodup_append];exact⟨i1,by simp,fun x hx y hy=>by simp at hy;subst hy;exact fun e=>hm (by rw[<- e];exact hx)⟩
        have hlT:(T++[w]).length<=n:=CI n _ hnd fun t ht=>by
         rcases aK.1 ht with h|h
         . exact(i2 t h).1
         . rw[List.mem_singleton.1 h];exact hw.1
        rw[ak,bp]at hlT;have hmul:(n-T.length)*(n+1)=(n-(T.length+1))*(n+1)+(n+1):=by
         rw[show n-T.length=(n-(T.length+1))+1 by omega,bf,Nat.one_mul]
        refine .inl ⟨_,_,rfl,?_,T++[w],Sk++b,rfl,hnd,fun t ht=>?_,fun t ht=>?_,fun x hx=>?_,fun t ht x hx=>?_,rfl,?_⟩
        . rw[ak,ak,bp,hmul];omega
        . rcases aK.1 ht with h|h
          . exact i2 t h
          . rw[List.mem_singleton.1 h];exact hw
        . rcases aK.1 ht with h|h
          . exact i3 t (by simp[h])
          . have:=(hb3 t).1 h;exact⟨(hb _ _ this).2,hw.2.snoc this⟩
        . rcases i4 x hx with e|e
          . exact .inl (by simp[e])
          . rcases aK.1 e with e|e
            . exact .inr (by simp[e])
            . exact .inl (by simp[List.mem_singleton.1 e])
        . rcases aK.1 ht with h|h
          . rcases i5 t h x hx with e|e
            . exact .inl (by simp[e])
            . rcases aK.1 e with e|e
              . exact .inr (by simp[e])
              . exact .inl (by simp[List.mem_singleton.1 e])
          . rw[List.mem_singleton.1 h]at hx;exact .inr (by simp[(hb3 x).2 hx])
        . rw[ak,ak,bp];omega
  . exact⟨(hb _ _ ((ham t).1 ht)).2,.one ((ham t).1 ht)⟩
 obtain⟨r,hr,T,rfl,h1,h2⟩:=key;unfold oy;rw[ha,Vp _ (by rw[dC];omega)];simp only[aa];rw[hr];unfold jy;simp only[aa];obtain⟨z,hz⟩:=MT h1 (w:=Y3 R n v) ((List.perm_ext_iff_of_nodup h1 (rl _ _)).2 fun x=>by
  rw[h2];refine Iff.trans ?_ PJ.symm;refine⟨fun h=>⟨?_,h⟩,fun h=>h.2⟩;rcases h.last with h|⟨k,_,h⟩
  . exact(hb _ _ h).2
  . exact(hb _ _ h).2) (AD _ _) (Nat.lt_of_le_of_lt (my _ _) hn)
 rw[hz];rfl
theorem Lw{C:Nat->Prop}(hC:∀x,C x->∃u,C u/\R u x=true):∀(m:Nat) (K o:List Nat),(∀x,C x->x∈K)->∀x,C x->x∈(pf R m K o).1
 |0,K,o,h=>h
 |m+1,K,o,h=>by
  unfold pf;split
  . exact h
  . rename_i v hv;refine Lw hC m _ _ fun x hx=>ba.2 ⟨h x hx,aH fun e=>?_⟩
    subst e;have h0:=List.find?_some hv;have h0:=aF h0;obtain⟨u,hu,hr⟩:=hC _ hx;rw[J0.1 h0 u (h u hu)]at hr;cases hr
theorem Dj{S:List Nat}{i j:Nat}(h:wo R S i j=true):R i j=true/\i ∉ S/\j ∉ S:=by
 unfold wo at h;simpa using h
theorem Nq(hb:∀i j,R i j=true->i<n/\j<n){S:List Nat}{v:Nat}(h:TC (wo R S) v v)(m:Nat):v∈(pf R m (K0 n S) []).1:=by
 refine Lw (C:=fun x=>TC (wo R S) v x/\TC (wo R S) x v) (fun x hx=>?_) m _ _ (fun x hx=>?_) v ⟨h,h⟩
 . rcases hx.1.last with h1|⟨k,h1,h2⟩
   . exact⟨v,⟨h,h⟩,(Dj h1).1⟩
   . exact⟨k,⟨h1,.cons h2 hx.2⟩,(Dj h2).1⟩
 . obtain⟨k,hk⟩:=hx.2.fst;have:=Dj hk;unfold K0;exact ig.2 ⟨(hb _ _ this.1).1,aH this.2.1⟩
theorem Vr(h:PG n R es out oi)(hn:n<50)(hb:∀i j,R i j=true->i<n/\j<n)(hR:∀i j,R i j=true->i≠j){S:List Nat}(hS:S.length<=1000):
 zG (zn S) (n:Int) es out oi=some (es,zn (vB R n S)):=by
 unfold zG
 rw[N6 h hn hS]
 simp only[aa]
 refine h.FT (by omega) hS hR _ fun es2 out2 inn2 hG=>?_
 unfold gJ
 simp only[aa]
 have hb2:∀i j,wo R S i j=true->i<n/\j<n:=fun i j hij=>hb _ _ (Dj hij).1
 refine ue n (fun v=>@decide (TC (wo R S) v v) (Classical.propDecidable _)) (fun k acc=>((k:Int),zn acc)) _ (fun k hk=>?_) ?_ rfl
 . unfold yW
   have hl:=my k fun v=>@decide (TC (wo R S) v v) (Classical.propDecidable _)
   rw[if_pos (by simp only;omega)]
   simp only[LO,dk hk (by omega)]
   rw[Xt hG hn hb2 hk]
   simp only[aa]
   rw[rL _ _ (by rw[dC];have:=my n fun t=>@decide (TC (wo R S) k t) (Classical.propDecidable _);unfold Y3;omega)]
   simp only[aa,rJ]
   have hm:k∈Y3 (wo R S) n k↔TC (wo R S) k k:=by rw[PJ];exact⟨fun h=>h.2,fun h=>⟨hk,h⟩⟩
   by_cases hc:TC (wo R S) k k
   . rw[if_pos (Nq hb hc n)]
     simp only[Option.isSome_some,if_true,aa]
     rw[aH (hm.2 hc),if_pos rfl,dj (by rw[dC];simp;omega),if_pos (@decide_eq_true _ (Classical.propDecidable _) hc),sP];rfl
   . rw[decide_eq_false fun h=>hc (hm.1 h),if_neg fun e=>hc (@of_decide_eq_true _ (Classical.propDecidable _) e),aL]
     split
     . simp
     . simp
 . unfold yW
   rw[if_neg (by simp)];rfl
end
end G
end
section
open IntKind(i64)
open G
namespace G
theorem KH{α:Type}{f:Int->Option (Int⊕Bool)}(l:List α)(p:α->Prop)[DecidablePred p](b:Bool)(hn:l.length<=1000000)
 (hf:∀s,f s=if s<(l.length:Int)then(idx l s).bind fun x=>if p x then some (.inr b)else some (.inl (i64.wrap (s+1)))else some (.inr (!b))):Iter f 0=some (if l.any (fun x=>decide (p x))=true then b else !b):=by
 have hK:=jd (f:=f) l (fun x=>decide (p x)) (fun k=>(k:Int)) (fun _=>b) (!b)
  (fun k h hb=>by rw[hf,if_pos (by omega),cN h];simp only[aa];rw[if_neg (of_decide_eq_false hb),dk h (by omega)])
  (fun k h hb=>by rw[hf,if_pos (by omega),cN h];simp only[aa];rw[if_pos (aF hb)])
  (by rw[hf,if_neg (by omega)]) (s:=0) rfl
 rcases hK with⟨ha,he⟩|⟨k,h,hb,_,he⟩
 . rw[he,if_neg]
   rw[Bool.not_eq_true,List.any_eq_false]
   exact fun x hx=>by rw[ha x hx];simp
 . rw[he,if_pos]
   exact bH.2 ⟨_,aA h,hb⟩
theorem Pd{f:Int->Option (Int⊕Bool)}{x:Int}(l:List Int)(hn:l.length<=1000000)(hf:∀s,f s=if s<(l.length:Int)then(idx l s).bind fun y=>if y=x then some (.inr true)else some (.inl (i64.wrap (s+1)))else some (.inr false)):Iter f 0=some (decide (x∈l)):=by
 rw[KH l (fun y=>y=x) true hn hf];congr 1;by_cases h:x∈l
 . rw[if_pos (bH.2 ⟨x,h,aH rfl⟩),aH h]
 . rw[if_neg (fun e=>by obtain⟨y,hy,e⟩:=bH.1 e;exact h (by rw[<- aF e];exact hy)),decide_eq_false h];rfl
theorem aaJ(l:List Int)(x:Int)(hn:l.length<=1000000):wB x l=some (decide (x∈l)):=Pd l hn fun _=>rfl
theorem J9(l:List Int)(x:Int)(hn:l.length<=1000000):qB x l=some (decide (x∈l)):=Pd l hn fun _=>rfl
theorem aaK(l:List Int)(x:Int)(hn:l.length<=1000000):zT x l=some (decide (x∈l)):=Pd l hn fun _=>rfl
structure RG(n:Nat)(R:Nat->Nat->Bool)(E:List bT):Prop where
 len:E.length<=2000
 mem:∀e,e∈E↔∃i j:Nat,i<n/\j<n/\R i j=true/\e=⟨(i:Int),(j:Int)⟩
section
variable {n:Nat}{R:Nat->Nat->Bool}{E:List bT}
def kp(S:List Nat)(e:bT):Bool:=decide (e.cq ∉ zn S)&&decide (e.to ∉ zn S)
theorem RG.FT(h:RG n R E){S:List Nat}(hS:S.length<=1000):nm (zn S) (n:Int) E=some ((n:Int),E.filter (kp S))/\RG n (wo R S) (E.filter (kp S)):=by
 have hl:=h.len;refine⟨?_,Nat.le_trans (bC _ _) hl,fun e=>?_⟩
 . unfold nm;refine cb (f:=nB (zn S) E) E.length (fun k=>((k:Int),(n:Int),(E.take k).filter (kp S))) _ (fun k hk=>?_) ?_ (by simp)
   . unfold nB;have hfl:((E.take k).filter (kp S)).length<=k:=Nat.le_trans (bC _ _) (by rw[aN];omega);rw[if_pos (by simp only;omega)];simp only[cN hk,aa,aaJ (zn S) _ (by rw[dC];omega),dk hk (by omega)];rw[aB hk,List.filter_append];by_cases h1:E[k].cq∈zn S
     . simp[h1,kp]
     . by_cases h2:E[k].to∈zn S
       . simp[h1,h2,kp]
       . simp only[h1,h2,decide_false,if_true,aa,Bool.not_false];rw[dj (by simp;omega)];simp[h1,h2,kp]
   . unfold nB;rw[if_neg (by simp),bn]
 . rw[ba,h.mem];unfold kp wo;constructor
   . rintro⟨⟨i,j,hi,hj,hr,rfl⟩,h2⟩;simp only[rJ]at h2;exact⟨i,j,hi,hj,by rw[hr,Bool.true_and];exact h2,rfl⟩
   . rintro⟨i,j,hi,hj,hr,rfl⟩;rw[aq]at hr;refine⟨⟨i,j,hi,hj,hr.1,rfl⟩,?_⟩;simp only[rJ];exact hr.2
def bl(n:Nat)(T:List Nat):List Bool:=(List.range n).map fun t=>decide (t∈T)
theorem SA(n:Nat)(T:List Nat):(bl n T).length=n:=by unfold bl;simp
theorem Sz{T:List Nat}{t:Nat}(h:t<n):idx (bl n T) (t:Int)=some (decide (t∈T)):=by
 rw[cN (by rw[SA];exact h)];simp[bl]
theorem acN{T:List Nat}{t:Nat}:(bl n T).set t true=bl n (T++[t]):=by
 apply List.ext_getElem (by rw[bJ,SA,SA]);intro i h1 h2;rw[List.getElem_set];unfold bl;by_cases e:t=i
 . subst e;simp
 . have:i≠t:=fun h=>e h.symm
   simp[e,this]
theorem abo(h:RG n R E){v:Nat}{T0:List Nat}(h0:T0.Nodup)(h1:∀t∈T0,t<n/\TC R v t):
 ∃r,Iter (sI (v:Int) E) (false,(0:Int),bl n T0)=some r/\∃(g:Bool) (T:List Nat),r=.inl (g,bl n T)/\T.Nodup/\(∀t∈T,t<n/\TC R v t)/\(g=true->T0.length<T.length)/\(g=false->T=T0/\∀i j,i<n->j<n->R i j=true->(i=v\/i∈T0)->j∈T0):=by
 have hl:=h.len
 refine ck (fun m s=>∃(k:Nat) (g:Bool) (T:List Nat),s=(g,(k:Int),bl n T)/\k<=E.length/\m=E.length-k/\T.Nodup/\(∀t∈T,t<n/\TC R v t)/\(g=true->T0.length<T.length)/\(g=false->T=T0/\∀i j:Nat,(⟨(i:Int),(j:Int)⟩:bT)∈E.take k->(i=v\/i∈T0)->j∈T0))
  _ (fun m s hI=>?_) E.length _ ⟨0,false,T0,rfl,Nat.zero_le _,rfl,h0,h1,fun e=>by simp at e,fun _=>⟨rfl,fun i j hm=>by simp at hm⟩⟩
 obtain⟨k,g,T,rfl,i1,rfl,i2,i3,i4,i5⟩:=hI
 unfold sI
 by_cases hk:k<E.length
 . rw[if_pos (by simp only;omega)]
   obtain⟨i,j,hi,hj,hr,he⟩:=(h.mem _).1 (aA hk)
   have hvi:((i:Int)=(v:Int))↔i=v:=by omega
   simp only[cN hk,he,aa,Sz hi,Sz hj,dk hk (by omega),aM,acN,hvi]
   have hcond:(if i=v then some (!decide (j∈T))else if decide (i∈T)=true then some (!decide (j∈T))else some false)=some (decide ((i=v\/i∈T)/\j ∉ T)):=by
    by_cases a:i=v
    . simp[a]
    . by_cases b:i∈T<;>simp[a,b]
   rw[hcond]
   simp only[aa]
   have htk:=aB hk
   by_cases hc:(i=v\/i∈T)/\j ∉ T
   . rw[if_pos (aH hc)]
     refine .inl ⟨_,_,rfl,by omega,k+1,true,T++[j],rfl,hk,rfl,?_,fun t ht=>?_,fun _=>?_,fun e=>by cases e⟩
     . rw[List.nodup_append];exact⟨i2,by simp,fun x hx y hy=>by simp at hy;subst hy;exact fun e=>hc.2 (by rw[<- e];exact hx)⟩
     . rcases aK.1 ht with ht|ht
       . exact i3 t ht
       . rw[List.mem_singleton.1 ht]
         refine⟨hj,?_⟩
         rcases hc.1 with rfl|hc
         . exact .one hr
         . exact(i3 i hc).2.snoc hr
     . rw[ak,bp]
       cases g with
       |true=>have:=i4 rfl;omega
       |false=>rw[(i5 rfl).1];omega
   . rw[if_neg (by simpa using hc)]
     refine .inl ⟨_,_,rfl,by omega,k+1,g,T,rfl,hk,rfl,i2,i3,i4,fun e=>?_⟩
     obtain⟨rfl,i6⟩:=i5 e
     refine⟨rfl,fun a b hm hab=>?_⟩
     rw[htk,aK,List.mem_singleton,he]at hm
     rcases hm with hm|hm
     . exact i6 a b hm hab
     . simp only[bT.mk.injEq]at hm
       obtain rfl:a=i:=by omega
       obtain rfl:b=j:=by omega
       exact aP fun hn=>hc ⟨hab,hn⟩
 . rw[if_neg (by simp only;omega)]
   refine .inr ⟨_,rfl,g,T,rfl,i2,i3,i4,fun e=>⟨(i5 e).1,fun i j hi hj hr hor=>(i5 e).2 i j ?_ hor⟩⟩
   rw[br (by omega)]
   exact(h.mem _).2 ⟨i,j,hi,hj,hr,rfl⟩
theorem RD(h:RG n R E)(hb:∀i j,R i j=true->i<n/\j<n)(hn:n<50)(v:Nat):r8 (v:Int) (n:Int) E=some (zn (Y3 R n v)):=by
 have key:∃r,Iter (sH (v:Int) E) (true,bl n [])=some r/\∃T:List Nat,r=bl n T/\∀t,t∈T↔TC R v t:=by
  refine ck (fun m s=>∃(g:Bool) (T:List Nat),s=(g,bl n T)/\T.Nodup/\(∀t∈T,t<n/\TC R v t)/\m=2*(n-T.length)+(if g=true then 1 else 0)/\(g=false->∀i j,i<n->j<n->R i j=true->(i=v\/i∈T)->j∈T)) _ (fun m s hI=>?_) _ _ ⟨true,[],rfl,List.nodup_nil,by simp,rfl,fun e=>by cases e⟩;obtain⟨g,T,rfl,i1,i2,rfl,i3⟩:=hI;unfold sH
  cases g with
  |true=>
   rw[if_pos rfl]
   obtain⟨r,hr,g',T',rfl,j1,j2,j3,j4⟩:=abo h i1 i2
   refine .inl ⟨_,_,hr,?_,g',T',rfl,j1,j2,rfl,fun e=>?_⟩
   . have:=CI n T' j1 fun t ht=>(j2 t ht).1
     cases g' with
     |true=>have:=j3 rfl;simp;omega
     |false=>rw[(j4 rfl).1];simp
   . rw[(j4 e).1];exact(j4 e).2
  |false=>
   rw[if_neg (by simp)]
   refine .inr ⟨_,rfl,T,rfl,fun t=>⟨fun ht=>(i2 t ht).2,fun ht=>?_⟩⟩
   have clo:∀i t,TC R i t->(i=v\/i∈T)->t∈T:=fun i t h=>by
    induction h with
    |one h=>exact fun hor=>i3 rfl _ _ (hb _ _ h).1 (hb _ _ h).2 h hor
    |cons h _ ih=>exact fun hor=>ih (.inr (i3 rfl _ _ (hb _ _ h).1 (hb _ _ h).2 h hor))
   exact clo v t ht (.inl rfl)
 obtain⟨r,hr,T,rfl,hT⟩:=key;unfold r8;rw[dX (by omega)];simp only[aa];have e0:List.replicate (n:Int).toNat false=bl n []:=by
  apply List.ext_getElem (by simp[bl]);intro i h1 h2;simp[bl]
 rw[e0,hr];simp only[aa];have ef:Y3 R n v=(List.range n).filter fun t=>decide (t∈T):=by
  unfold Y3;refine bI fun t _=>?_
  rw[aW,hT]
 rw[ef];refine ue (f:=oH (n:Int) (bl n T)) n (fun t=>decide (t∈T)) (fun k acc=>(zn acc,(k:Int))) _ (fun k hk=>?_) ?_ rfl
 . unfold oH;have:=my k fun t=>decide (t∈T)
   rw[if_pos (by simp only;omega)];simp only[Sz hk,aa,dk hk (by omega)];by_cases hm:k∈T
   . rw[if_pos (aH hm),dj (by rw[dC];simp;omega),if_pos (aH hm),sP];rfl
   . rw[if_neg (by simp[hm]),if_neg (by simp[hm]),aL]
 . unfold oH;rw[if_neg (by simp)]
theorem Bz(h:RG n R E)(hn:n<50)(hb:∀i j,R i j=true->i<n/\j<n){S:List Nat}(hS:S.length<=1000):nS (zn S) (n:Int) E=some (zn (vB R n S)):=by
 obtain⟨h1,h2⟩:=h.FT hS;unfold nS;rw[h1];simp only[aa];have hb2:∀i j,wo R S i j=true->i<n/\j<n:=fun i j hij=>hb _ _ (Dj hij).1
 refine ue (f:=nT ((n:Int),E.filter (kp S))) n (fun v=>@decide (TC (wo R S) v v) (Classical.propDecidable _)) (fun k acc=>(zn acc,(k:Int))) _ (fun k hk=>?_) ?_ rfl
 . unfold nT;have hl:=my k fun v=>@decide (TC (wo R S) v v) (Classical.propDecidable _)
   have hl2:=my n fun t=>@decide (TC (wo R S) k t) (Classical.propDecidable _)
   rw[if_pos (by simp only;omega)];simp only[RD h2 hb2 hn k,aa,dk hk (by omega)];rw[J9 _ _ (by rw[dC];unfold Y3;omega)];simp only[aa,rJ];have hm:k∈Y3 (wo R S) n k↔TC (wo R S) k k:=by rw[PJ];exact⟨fun h=>h.2,fun h=>⟨hk,h⟩⟩
   by_cases hc:TC (wo R S) k k
   . rw[aH (hm.2 hc),if_pos rfl,dj (by rw[dC];simp;omega),if_pos (@decide_eq_true _ (Classical.propDecidable _) hc),sP];rfl
   . rw[decide_eq_false fun h=>hc (hm.1 h),if_neg (by simp),if_neg fun e=>hc (@of_decide_eq_true _ (Classical.propDecidable _) e),aL]
 . unfold nT;rw[if_neg (by simp)];rfl
theorem WG(h:RG n R E)(hb:∀i j,R i j=true->i<n/\j<n)(i j:Nat)(N:Int):uV ⟨(i:Int),(j:Int)⟩ N E=some (R i j):=by
 have hl:=h.len;unfold uV;rw[KH (f:=zp ⟨(i:Int),(j:Int)⟩ E) E (fun e=>e.cq=(i:Int)/\e.to=(j:Int)) true (by omega) fun s=>rfl];congr 1;have:(E.any fun e=>decide (e.cq=(i:Int)/\e.to=(j:Int)))=R i j:=by
  rw[Bool.eq_iff_iff,bH];constructor
  . rintro⟨e,he,hd⟩;obtain⟨a,b,_,_,hr,rfl⟩:=(h.mem e).1 he;have hd:=aF hd;obtain rfl:a=i:=by have:=hd.1;simp only at this;omega
    obtain rfl:b=j:=by have:=hd.2;simp only at this;omega
    exact hr
  . exact fun hr=>⟨⟨(i:Int),(j:Int)⟩,(h.mem _).2 ⟨i,j,(hb _ _ hr).1,(hb _ _ hr).2,hr,rfl⟩,aH ⟨rfl,rfl⟩⟩
 rw[this];cases R i j<;>rfl
theorem Y7(h:RG n R E)(hb:∀i j,R i j=true->i<n/\j<n)(hn:n<50)(v:Nat):wA (v:Int) (n:Int) E=some (zn (ins R n v)):=by
 unfold wA ins;refine ue (f:=rZ (v:Int) (n:Int) E) n (fun u=>R u v) (fun k acc=>(zn acc,(k:Int))) _ (fun k hk=>?_) ?_ rfl
 . unfold rZ;have:=my k fun u=>R u v
   rw[if_pos (by simp only;omega)];simp only[WG h hb,aa,dk hk (by omega)]
   cases hr:R k v with
   |true=>rw[if_pos rfl,dj (by rw[dC];simp;omega),if_pos rfl,sP];rfl
   |false=>rw[if_neg (by simp),if_neg (by simp),aL]
 . unfold rZ;rw[if_neg (by simp)]
theorem aaE(h:RG n R E)(hb:∀i j,R i j=true->i<n/\j<n)(hn:n<50)(v:Nat){o:List Nat}(ho:o.length<=1000):∃b,tI (v:Int) (zn o) (n:Int) E=some b/\(b=true↔∀u,R u v=true->u∈o):=by
 have hl:(ins R n v).length<=n:=my n fun u=>R u v
 unfold tI;rw[Y7 h hb hn];simp only[aa];rw[KH (f:=tX (zn o) (zn (ins R n v))) (zn (ins R n v)) (fun x=>x ∉ zn o) false (by rw[dC];omega) fun s=>by
  unfold tX;split
  . congr 1;funext x;rw[J9 _ _ (by rw[dC];omega)];simp only[aa];by_cases hx:x∈zn o<;>simp[hx]
  . rfl]
 refine⟨_,rfl,?_⟩;by_cases hc:∀u,R u v=true->u∈o
 . rw[if_neg]
   . exact⟨fun _=>hc,fun _=>rfl⟩
   . rw[Bool.not_eq_true,List.any_eq_false];intro x hx;obtain⟨u,hu,rfl⟩:=Hp.1 hx;simp only[rJ,au,Classical.not_not];exact hc u (ig.1 hu).2
 . rw[if_pos]
   . exact⟨fun h=>(by cases h),fun h=>absurd h hc⟩
   . rw[bH];obtain⟨u,hu⟩:=Classical.not_forall.1 hc;rw[Classical.not_imp]at hu;exact⟨(u:Int),rJ.2 (ig.2 ⟨(hb _ _ hu.1).1,hu.1⟩),by simp only[rJ];exact aH hu.2⟩
def left(n:Nat)(S o:List Nat):List Nat:=(List.range n).filter fun x=>decide (x ∉ S)&&decide (x ∉ o)
def nxt:Option Nat->Int
 |none=> -1
 |some v=>(v:Int)
theorem abp(h:RG n R E)(hb:∀i j,R i j=true->i<n/\j<n)(hn:n<50){S o:List Nat}(hS:S.length<=1000)(ho:o.length<=1000):
 Iter (l9 (zn S) ((n:Int),E.filter (kp S)) (zn o)) ((-1:Int),false,(n:Int)-1)=some (nxt ((left n S o).find? fun x=>decide (rK R (left n S o) x=0)),!(left n S o).isEmpty):=by
 obtain⟨_,h2⟩:=h.FT hS
 have hb2:∀i j,wo R S i j=true->i<n/\j<n:=fun i j hij=>hb _ _ (Dj hij).1
 have hfree:∀v,v∈left n S o->((∀u,wo R S u v=true->u∈o)↔rK R (left n S o) v=0):=fun v hv=>by
  rw[J0];have hvS:=(ig.1 hv).2;simp only[aq,au]at hvS;constructor
  . intro hu u hul;obtain⟨h3,h4⟩:=ig.1 hul;simp only[aq,au]at h4
    cases hr:R u v with
    |false=>rfl
    |true=>exact absurd (hu u (by unfold wo;simp[hr,h4.1,hvS.1])) h4.2
  . intro hu u hw;obtain⟨h3,h4,_⟩:=Dj hw;refine aP fun hno=>?_
    have:=hu u (ig.2 ⟨(hb _ _ h3).1,by simp[h4,hno]⟩);rw[h3]at this;cases this
 have hinl:∀v,v<n->(decide (v∈left n S o)=(decide (v ∉ S)&&decide (v ∉ o))):=fun v hv=>by
  rw[Bool.eq_iff_iff,au];unfold left;rw[ig];simp[hv]
 have hend:(List.range n).find? (fun v=>decide (v∈left n S o)&&decide (rK R (left n S o) v=0))=(left n S o).find? (fun x=>decide (rK R (left n S o) x=0)):=by
  rw[<- List.head?_filter,<- List.head?_filter];refine congrArg List.head? ?_;show _=((List.range n).filter fun x=>decide (x ∉ S)&&decide (x ∉ o)).filter fun x=>decide (rK R (left n S o) x=0)
  rw[List.filter_filter];refine bI fun v hv=>?_
  rw[hinl v (List.mem_range.1 hv),Bool.and_comm]
 have hany:(List.range n).any (fun v=>decide (v∈left n S o))=!(left n S o).isEmpty:=by
  rw[Bool.eq_iff_iff,bH];constructor
  . rintro⟨v,_,hv⟩;have:=aF hv
    cases hl:left n S o with
    |nil=>rw[hl]at this;cases this
    |cons=>rfl
  . intro he
    cases hl:left n S o with
    |nil=>rw[hl]at he;cases he
    |cons v l=>
     have hv:v∈left n S o:=by rw[hl];exact ax ..
     exact⟨v,List.mem_range.2 (ig.1 hv).1,by rw[<- hl];exact aH hv⟩
 rw[<- hend,<- hany]
 refine cb (f:=l9 (zn S) ((n:Int),E.filter (kp S)) (zn o)) n (fun t=>(nxt (((List.range n).drop (n-t)).find? fun v=>decide (v∈left n S o)&&decide (rK R (left n S o) v=0)),((List.range n).drop (n-t)).any (fun v=>decide (v∈left n S o)),(n:Int)-1-(t:Int))) _ (fun t ht=>?_) ?_ (by
  simp only[Nat.sub_zero];rw[List.drop_of_length_le (by simp)];simp[nxt])
 . unfold l9
   have hd:(List.range n).drop (n-(t+1))=(n-1-t)::(List.range n).drop (n-t):=by
    rw[bA (by simp;omega),List.getElem_range,show n-(t+1)+1=n-t by omega,show n-(t+1)=n-1-t by omega]
   have hv:(n:Int)-1-(t:Int)=((n-1-t:Nat):Int):=by omega
   rw[if_pos (by simp only;omega)]
   have hw:i64.wrap ((n:Int)-1-(t:Int)-1)=(n:Int)-1-((t+1:Nat):Int):=by rw[fm (by omega) (by omega)];omega
   simp only[hw]
   rw[hv,J9 _ _ (by rw[dC];omega),J9 _ _ (by rw[dC];omega),hd,List.find?_cons,List.any_cons]
   have hvn:n-1-t<n:=by omega
   have hin:=hinl _ hvn
   generalize n-1-t=v at*
   simp only[aa,rJ]
   by_cases hS1:v∈S
   . rw[if_pos (aH hS1)]
     simp only[aa,if_true]
     rw[hin];simp[hS1]
   . rw[if_neg (by simp[hS1])]
     simp only[aa]
     by_cases ho1:v∈o
     . rw[if_pos (aH ho1),hin];simp[ho1]
     . obtain⟨b,hb3,hb4⟩:=aaE h2 hb2 hn v ho
       rw[if_neg (by simp[ho1]),hb3]
       simp only[aa]
       have hvl:v∈left n S o:=aF (by rw[hin];simp[hS1,ho1])
       rw[aH hvl]
       have hf:=hfree v hvl
       by_cases hc:rK R (left n S o) v=0
       . rw[if_pos (hb4.2 (hf.2 hc)),aH hc];rfl
       . rw[if_neg fun e=>hc (hf.1 (hb4.1 e)),decide_eq_false hc];rfl
 . unfold l9
   rw[if_neg (by simp only;omega)]
   simp
theorem Jj(h:RG n R E)(hb:∀i j,R i j=true->i<n/\j<n)(hn:n<50){S:List Nat}(hS:S.length<=1000):∀(m:Nat) (o:List Nat),(left n S o).length<=m->o.length+m<=1000->
 Iter (jf (zn S) ((n:Int),E.filter (kp S))) (zn o)=some (if(pf R m (left n S o) o).1=[]then(zn (pf R m (left n S o) o).2,true)else([],false))
 |m,o,hm,ho=>by
  have hp:=abp h hb hn hS (o:=o) (by omega);have hw:i64.wrap ((n:Int)-1)=(n:Int)-1:=fm (by omega) (by omega)
  cases hl:left n S o with
  |nil=>
   have hk:pf R m [] o=([],o):=by cases m<;>rfl
   rw[hk,if_pos rfl]
   refine fS ?_
   unfold jf
   simp only[hw]
   rw[hp,hl];rfl
  |cons a l=>
   cases m with
   |zero=>rw[hl]at hm;simp at hm
   |succ m=>
    rw[<- hl]
    cases hf:(left n S o).find? fun x=>decide (rK R (left n S o) x=0)with
    |none=>
     have hk:pf R (m+1) (left n S o) o=(left n S o,o):=by unfold pf;rw[hf]
     rw[hk,if_neg (by rw[hl];simp)]
     refine fS ?_
     unfold jf
     simp only[hw]
     rw[hp,hf,hl];rfl
    |some v=>
     have hk:pf R (m+1) (left n S o) o=pf R m ((left n S o).filter fun x=>decide (x≠v)) (o++[v]):=by
      conv=>lhs;unfold pf
      rw[hf]
     have hvm:=List.mem_of_find?_eq_some hf
     have hleft:((left n S o).filter fun x=>decide (x≠v))=left n S (o++[v]):=by
      unfold left;rw[List.filter_filter];refine bI fun x _=>?_
      rw[Bool.eq_iff_iff];simp only[aq,au,aK,List.mem_singleton,not_or];exact⟨fun⟨a,b,c⟩=>⟨b,c,a⟩,fun⟨b,c,a⟩=>⟨a,b,c⟩⟩
     have hstep:jf (zn S) ((n:Int),E.filter (kp S)) (zn o)=some (.inl (zn (o++[v]))):=by
      unfold jf;simp only[hw];rw[hp,hf,hl];simp only[aa,nxt,List.isEmpty_cons];rw[if_neg (by simp),if_neg (by omega),dj (by rw[dC];simp;omega),sP];rfl
     rw[jB hstep,hk,hleft]
     refine Jj h hb hn hS m _ ?_ (by simp;omega)
     rw[<- hleft]
     have hln:(left n S o).Nodup:=rl n _
     have:=(Ay hln hvm).length_eq
     rw[bK]at this
     omega
theorem Yi(n:Nat)(S:List Nat):left n S []=K0 n S:=by unfold left K0;simp
theorem RB(h:RG n R E)(hb:∀i j,R i j=true->i<n/\j<n)(hn:n<50){S:List Nat}(hS:S.length<=1000):
 r9 (zn S) (n:Int) E=some (if(pf R n (K0 n S) []).1=[]then(zn (pf R n (K0 n S) []).2,true)else([],false)):=by
 unfold r9
 rw[(h.FT hS).1]
 simp only[aa]
 have:=Jj h hb hn hS n [] (my _ _) (by simp;omega)
 rw[Yi]at this
 exact this
end
section
variable {n:Nat}{R:Nat->Nat->Bool}{es:List (bP×Bool)}{out oi:List (Int×List Int)}
theorem Xo(h:PG n R es out oi)(hn:n<50){S:List Nat}(hS:S.length<=1000):
 BP (zn S) (n:Int) es out oi=some (if(pf R n (K0 n S) []).1=[]then(zn (pf R n (K0 n S) []).2,true)else([],false)):=by
 unfold BP
 rw[N6 h hn hS]
 simp only[aa,ado]
 cases(pf R n (K0 n S) []).1 with
 |nil=>simp
 |cons a l=>simp
end
end G
end
section
open G
namespace G
def ME(w:Nat->Int):List Nat->Nat
 |[]=>0
 |x::t=>t.foldl (fun b y=>if w y<w b then y else b) x
theorem Qr(w:Nat->Int)(l:List Nat)(y:Nat):ME w (l++[y])=if l=[]then y else if w y<w (ME w l)then y else ME w l:=by
 cases l with
 |nil=>rfl
 |cons x t=>
  rw[if_neg (by simp)]
  show(t++[y]).foldl (fun b y=>if w y<w b then y else b) x=_
  rw[List.foldl_append];rfl
theorem JY(w:Nat->Int){l:List Nat}(h:l≠[]):ME w l∈l:=by
 cases l with
 |nil=>exact absurd rfl h
 |cons x t=>
  show t.foldl (fun b y=>if w y<w b then y else b) x∈x::t
  clear h
  induction t generalizing x with
  |nil=>simp
  |cons y t ih=>
   rw[List.foldl_cons]
   have:=ih (if w y<w x then y else x)
   rcases aZ.1 this with e|e
   . rw[e];split<;>simp
   . exact aE _ (aE _ e)
def wt(W:List Int)(v:Nat):Int:=W.getD v 0
theorem My{W:List Int}{v:Nat}(h:v<W.length):xR W (v:Int)=some (wt W v):=by
 unfold xR wt;rw[if_neg (by omega)];simp only[aa];rw[if_neg (by simp;omega),dD 0 h];rfl
theorem Mz{W:List Int}{v:Nat}(h:v<W.length):nU W (v:Int)=some (wt W v):=by
 unfold nU wt;rw[if_neg (by omega)];simp only[aa];rw[if_neg (by simp;omega),dD 0 h];rfl
theorem RU{W:List Int}{l:List Nat}(hl:∀v∈l,v<W.length)(hn:l.length<=1000):eT (zn l) W=some ((ME (wt W) l:Int),decide (l≠[])):=by
 unfold eT;have hI:Iter (dG (zn l) W) ((0:Int),(0:Int))=some (ME (wt W) l:Int):=by
  refine cb (f:=dG (zn l) W) l.length (fun k=>((ME (wt W) (l.take k):Int),(k:Int))) _ (fun k hk=>?_) ?_ (by simp[ME])
  . unfold dG;rw[if_pos (by rw[dC];omega),BQ hk];have htk:=aB hk;simp only[aa,dk hk (by omega)];rw[htk,Qr];by_cases h0:k=0
    . subst h0;simp
    . have hne:l.take k≠[]:=fun e=>by have:=congrArg List.length e;rw[aN,List.length_nil]at this;omega
      have hb:=hl _ (List.mem_of_mem_take (JY (wt W) hne));rw[if_neg (by omega),if_neg hne];unfold xQ;rw[My (hl _ (aA hk)),My hb];simp only[aa,au];split<;>rfl
  . unfold dG;rw[if_neg (by rw[dC];omega),bn]
 rw[hI];simp only[aa,dC];congr 2;rw[aW];cases l<;>simp
theorem P7{l qu:List Nat}(h:∀v∈l,v ∉ qu)(hn:l.length<=1000)(hk:qu.length<=1000):dV (zn l) (zn qu)=some (zn l):=by
 unfold dV fE;have hI:Iter (dc (zn l) (zn qu)) (0:Int)=some (-1:Int):=by
  refine cb (f:=dc (zn l) (zn qu)) l.length (fun k=>(k:Int)) _ (fun k hk2=>?_) ?_ rfl
  . unfold dc xP;rw[if_pos (by rw[dC];omega),BQ hk2];simp only[aa];rw[rL _ _ (by rw[dC];omega)];simp only[aa,rJ];rw[decide_eq_false (h _ (aA hk2)),if_neg (by simp),dk hk2 (by omega)]
  . unfold dc;rw[if_neg (by rw[dC];omega)]
 rw[hI];simp only[aa,if_true]
noncomputable def Lc(R:Nat->Nat->Bool)(n:Nat)(w:Nat->Int):Nat->List Nat->List Nat
 |0,T=>T
 |m+1,T=>if vB R n T=[]then T else Lc R n w m (T++[ME w (vB R n T)])
theorem Gr{R:Nat->Nat->Bool}{n:Nat}{T:List Nat}{v:Nat}(h:v∈vB R n T):v<n/\v ∉ T/\∃k,R v k=true:=by
 obtain⟨h1,h2⟩:=A8.1 h;obtain⟨k,hk⟩:=h2.fst;have:=Dj hk;exact⟨h1,this.2.1,k,this.1⟩
theorem wa{R:Nat->Nat->Bool}{n:Nat}{w:Nat->Int}{T:List Nat}(hT:T.Nodup)(hTn:∀t∈T,t<n)(hc:vB R n T≠[]):(T++[ME w (vB R n T)]).Nodup/\(∀t∈T++[ME w (vB R n T)],t<n)/\T.length<n:=by
 have hb:=Gr (JY w hc);have h1:(T++[ME w (vB R n T)]).Nodup:=by rw[List.nodup_append];exact⟨hT,by simp,fun x hx y hy=>by simp at hy;subst hy;exact fun e=>hb.2.1 (by rw[<- e];exact hx)⟩
 have h2:∀t∈T++[ME w (vB R n T)],t<n:=fun t ht=>by
  rcases aK.1 ht with h|h
  . exact hTn t h
  . rw[List.mem_singleton.1 h];exact hb.1
 have h3:=CI n _ h1 h2;rw[ak,bp]at h3;exact⟨h1,h2,h3⟩
theorem Ud{R:Nat->Nat->Bool}{n:Nat}{w:Nat->Int}:∀(m:Nat) (T:List Nat),T.Nodup->(∀t∈T,t<n)->n-T.length<=m->vB R n (Lc R n w m T)=[]/\(Lc R n w m T).Nodup/\(∀t∈Lc R n w m T,t<n/\(t∈T\/∃k,R t k=true))/\(vB R n T=[]↔Lc R n w m T=T)
 |0,T,hT,hTn,hm=>by
  have hc:vB R n T=[]:=aP fun hc=>by have:=(wa (w:=w) hT hTn hc).2.2;omega
  exact⟨hc,hT,fun t ht=>⟨hTn t ht,.inl ht⟩,fun _=>rfl,fun _=>hc⟩
 |m+1,T,hT,hTn,hm=>by
  unfold Lc;by_cases hc:vB R n T=[]
  . rw[if_pos hc];exact⟨hc,hT,fun t ht=>⟨hTn t ht,.inl ht⟩,fun _=>rfl,fun _=>hc⟩
  . rw[if_neg hc];obtain⟨h1,h2,h3⟩:=wa (w:=w) hT hTn hc;obtain⟨k1,k2,k3,_⟩:=Ud (w:=w) m _ h1 h2 (by rw[ak,bp];omega);refine⟨k1,k2,fun t ht=>⟨(k3 t ht).1,?_⟩,fun e=>absurd e hc,fun e=>?_⟩
    . rcases(k3 t ht).2 with h|h
      . rcases aK.1 h with h|h
        . exact .inl h
        . rw[List.mem_singleton.1 h];exact .inr (Gr (JY w hc)).2.2
      . exact .inr h
    . have hpre:∀(m:Nat) (T:List Nat),T <+: Lc R n w m T:=fun m=>by
       induction m with
       |zero=>exact fun T=>List.prefix_refl _
       |succ m ih=>
        intro T
        unfold Lc
        split
        . exact List.prefix_refl _
        . exact(List.prefix_append _ _).trans (ih _)
      have:=(hpre m (T++[ME w (vB R n T)])).length_le;rw[e,ak,bp]at this;omega
section
variable {n:Nat}{R:Nat->Nat->Bool}{es:List (bP×Bool)}{out oi:List (Int×List Int)}{W:List Int}{qu:List Nat}
theorem UQ(h:PG n R es out oi)(hn:n<50)(hb:∀i j,R i j=true->i<n/\j<n)(hR:∀i j,R i j=true->i≠j)(hW:W.length=n)(hk:∀v∈qu,∀k,R v k=false)(hkl:qu.length<=1000){T:List Nat}(hT:T.length<=1000):
 yz W (zn T) (zn qu) (n:Int) es out oi=some ((ME (wt W) (vB R n T):Int),decide (vB R n T≠[]),decide (vB R n T≠[]),es):=by
 have hl:(vB R n T).length<=n:=my n fun v=>@decide (TC (wo R T) v v) (Classical.propDecidable _)
 unfold yz
 rw[Vr h hn hb hR hT]
 simp only[aa]
 rw[P7 (fun v hv hvk=>by
  obtain⟨_,_,k,hk2⟩:=Gr hv;rw[hk v hvk k]at hk2;cases hk2) (by omega) hkl]
 simp only[aa]
 rw[RU (fun v hv=>by rw[hW];exact(Gr hv).1) (by omega)]
 simp only[aa,dC]
 congr 4
 rw[aW]
 cases vB R n T<;>simp
theorem Vn(h:PG n R es out oi)(hn:n<50)(hb:∀i j,R i j=true->i<n/\j<n)(hR:∀i j,R i j=true->i≠j)(hW:W.length=n)(hk:∀v∈qu,∀k,R v k=false)(hkl:qu.length<=1000):
 xO W (zn qu) (n:Int) es out oi=some (zn (Lc R n (wt W) n []),true,(n:Int),es,out,oi):=by
 have hloop:∀(m:Nat) (T:List Nat),T.Nodup->(∀t∈T,t<n)->n-T.length<=m->
  Iter qn (decide (vB R n T≠[]),decide (vB R n T≠[]),(n:Int),es,out,oi,zn (if vB R n T=[]then T else T++[ME (wt W) (vB R n T)]),W,zn qu)=some (false,(n:Int),es,out,oi,zn (Lc R n (wt W) m T)):=fun m=>by
  induction m with
  |zero=>
   intro T hT hTn hm
   have hc:vB R n T=[]:=aP fun hc=>by have:=(wa (w:=wt W) hT hTn hc).2.2;omega
   refine fS ?_
   unfold qn Lc
   simp[hc]
  |succ m ih=>
   intro T hT hTn hm
   by_cases hc:vB R n T=[]
   . refine fS ?_
     unfold qn Lc
     simp[hc]
   . obtain⟨h1,h2,h3⟩:=wa (w:=wt W) hT hTn hc
     unfold Lc
     rw[if_neg hc,if_neg hc]
     rw[<- ih _ h1 h2 (by rw[ak,bp];omega)]
     refine jB ?_
     unfold qn xl
     rw[aH hc,if_pos rfl]
     simp only
     rw[UQ h hn hb hR hW hk hkl (by simp;omega)]
     simp only[aa]
     generalize hT':T++[ME (wt W) (vB R n T)]=T' at*
     have hl':T'.length<=n:=CI n T' h1 h2
     by_cases hc2:vB R n T'=[]
     . simp[hc2]
     . rw[aH hc2,if_pos rfl,dj (by rw[dC];simp;omega),if_neg hc2,sP];rfl
 have h0:=hloop n [] List.nodup_nil (by simp) (by simp)
 unfold xO yy
 have h1:=UQ h hn hb hR hW hk hkl (T:=[]) (by simp)
 rw[show zn []=([]:List Int) from rfl]at h1
 rw[h1]
 simp only[aa]
 have e:((if decide (vB R n []≠[])=true then(app 8 ([]:List Int) [(ME (wt W) (vB R n []):Int)]).bind fun y3=>some y3 else some ([]:List Int)):Option (List Int))=some (zn (if vB R n []=[]then[]else[]++[ME (wt W) (vB R n [])])):=by
  by_cases hc:vB R n []=[]
  . simp[hc,zn]
  . rw[aH hc,if_pos rfl,if_neg hc,dj (by simp)];rfl
 rw[e]
 simp only[aa]
 rw[h0]
 simp
theorem Tv{E:List bT}(h:RG n R E)(hn:n<50)(hb:∀i j,R i j=true->i<n/\j<n)(hW:W.length=n){T:List Nat}(hT:T.length<=1000)(hc:vB R n T≠[]):tJ W (zn T) [] (n:Int) E=some (ME (wt W) (vB R n T):Int):=by
 have hl:(vB R n T).length<=n:=my n fun v=>@decide (TC (wo R T) v v) (Classical.propDecidable _)
 unfold tJ;rw[Bz h hn hb hT];simp only[aa];have hlt:∀v∈vB R n T,v<W.length:=fun v hv=>by rw[hW];exact(Gr hv).1
 generalize vB R n T=l at*
 refine cb (f:=p7 W [] (zn l)) l.length (fun k=>(if l.take k=[]then(-1:Int)else(ME (wt W) (l.take k):Int),(k:Int))) _ (fun k hk=>?_) ?_ (by simp)
 . unfold p7;rw[if_pos (by rw[dC];omega),BQ hk];have htk:=aB hk;simp only[aa,dk hk (by omega)];rw[aaK [] _ (by simp)];simp only[aa];rw[decide_eq_false (by simp),if_pos rfl,if_neg (fun e=>by have:=congrArg List.length e;rw[aN,List.length_nil]at this;omega:¬ l.take (k+1)=[]),htk,Qr];by_cases h0:l.take k=[]
   . rw[if_pos h0,if_pos (by omega)];simp[h0]
   . have hbm:=hlt _ (List.mem_of_mem_take (JY (wt W) h0));rw[if_neg h0,if_neg (by omega),Mz (hlt _ (aA hk)),Mz hbm,if_neg h0];simp only[aa,au];split<;>rfl
 . unfold p7;rw[if_neg (by rw[dC];omega),bn,if_neg hc]
theorem PK{E:List bT}(h:RG n R E)(hn:n<50)(hb:∀i j,R i j=true->i<n/\j<n)(hW:W.length=n):uW W [] (n:Int) E=some (zn (Lc R n (wt W) n []),true):=by
 have hloop:∀(m:Nat) (T:List Nat),T.Nodup->(∀t∈T,t<n)->n-T.length<=m->Iter (kZ W [] (n:Int) E) (zn T)=some (zn (Lc R n (wt W) m T),true):=fun m=>by
  have hfin:∀T:List Nat,T.Nodup->(∀t∈T,t<n)->vB R n T=[]->Iter (kZ W [] (n:Int) E) (zn T)=some (zn T,true):=fun T hT hTn hc=>by
   have hl:=CI n T hT hTn;refine fS ?_;unfold kZ;rw[Bz h hn hb (by omega),hc];simp[zn]
  induction m with
  |zero=>
   intro T hT hTn hm
   have hc:vB R n T=[]:=aP fun hc=>by have:=(wa (w:=wt W) hT hTn hc).2.2;omega
   exact hfin T hT hTn hc
  |succ m ih=>
   intro T hT hTn hm
   by_cases hc:vB R n T=[]
   . unfold Lc
     rw[if_pos hc];exact hfin T hT hTn hc
   . obtain⟨h1,h2,h3⟩:=wa (w:=wt W) hT hTn hc
     unfold Lc
     rw[if_neg hc,<- ih _ h1 h2 (by rw[ak,bp];omega)]
     refine jB ?_
     unfold kZ
     rw[Bz h hn hb (by omega)]
     simp only[aa]
     rw[if_pos (by rw[dC];have:=List.length_pos_iff.2 hc;omega),Tv h hn hb hW (by omega) hc]
     simp only[aa]
     rw[if_neg (by omega),dj (by rw[dC];simp;omega),sP];rfl
 exact hloop n [] List.nodup_nil (by simp) (by simp)
end
section
variable {R:Nat->Nat->Bool}
theorem NB:∀(m:Nat) (K o:List Nat),K.Nodup->((pf R m K o).2++(pf R m K o).1).Perm (o++K)
 |0,K,o,_=>List.Perm.refl _
 |m+1,K,o,hK=>by
  unfold pf;split
  . exact List.Perm.refl _
  . rename_i v hv;refine(NB m _ _ (List.Pairwise.filter _ hK)).trans ?_;rw[az];exact(Ay hK (List.mem_of_find?_eq_some hv)).symm.append_left _
theorem Ly:∀(m:Nat) (K o:List Nat),K.Nodup->K.length<=m->∀x∈(pf R m K o).1,∃u∈(pf R m K o).1,R u x=true
 |0,K,o,_,hm,x,hx=>by
  rw[List.length_eq_zero_iff.1 (Nat.le_zero.1 hm)]at hx;exact absurd hx (by simp[pf])
 |m+1,K,o,hK,hm,x,hx=>by
  unfold pf at hx ⊢;split at hx
  . rename_i hf;simp only at hx ⊢;have:=List.find?_eq_none.1 hf x hx;have h1:¬ rK R K x=0:=by simpa using this
    rw[J0]at h1;obtain⟨u,hu⟩:=Classical.not_forall.1 h1;rw[Classical.not_imp]at hu;exact⟨u,hu.1,by simpa using hu.2⟩
  . rename_i v hv;refine Ly m _ _ (List.Pairwise.filter _ hK) ?_ x hx;have:=(Ay hK (List.mem_of_find?_eq_some hv)).length_eq;rw[bK]at this;omega
theorem Ya(m:Nat)(K o:List Nat):∀x∈(pf R m K o).1,x∈K:=by
 induction m generalizing K o with
 |zero=>exact fun x h=>h
 |succ m ih=>
  intro x hx
  unfold pf at hx
  split at hx
  . exact hx
  . exact(ba.1 (ih _ _ x hx)).1
open Classical in
theorem Qw{K:List Nat}(hK:∀x∈K,∃u∈K,R u x=true):∀(k:Nat) (x:Nat),x∈K->(K.filter fun u=>decide (TC R u x)).length<=k->∃v∈K,TC R v v
 |k,x,hx,hk=>by
  obtain⟨u,hu,hr⟩:=hK x hx;by_cases hc:TC R u u
  . exact⟨u,hu,hc⟩
  . have hlt:(K.filter fun a=>decide (TC R a u)).length<(K.filter fun a=>decide (TC R a x)).length:=by
     have e:(K.filter fun a=>decide (TC R a u))=(K.filter fun a=>decide (TC R a x)).filter fun a=>decide (TC R a u):=by
      rw[List.filter_filter];refine bI fun a _=>?_
      rw[Bool.eq_iff_iff,aq,au,au];exact⟨fun h=>⟨h,h.snoc hr⟩,fun h=>h.1⟩
     rw[e];refine List.length_filter_lt_length_iff_exists.2 ⟨u,ba.2 ⟨hu,aH (.one hr)⟩,?_⟩;rw[au];exact hc
    cases k with
    |zero=>omega
    |succ k=>exact Qw hK k u hu (by omega)
theorem Wc{n:Nat}{S:List Nat}(hb:∀i j,R i j=true->i<n/\j<n):(pf R n (K0 n S) []).1=[]↔vB R n S=[]:=by
 constructor
 . intro h;refine aP fun hc=>?_
   cases hl:vB R n S with
   |nil=>exact hc hl
   |cons v l=>
    have hv:v∈vB R n S:=by rw[hl];exact ax ..
    have:=Nq hb (A8.1 hv).2 n
    rw[h]at this;cases this
 . intro h;refine aP fun hc=>?_
   have hst:=Ly (R:=R) n (K0 n S) [] (rl _ _) (my _ _);have hsub:=Ya (R:=R) n (K0 n S) [];generalize (pf R n (K0 n S) []).1=K at*
   cases K with
   |nil=>exact hc rfl
   |cons x l=>
    have hS:∀y∈x::l,y ∉ S/\y<n:=fun y hy=>by
     have:=ig.1 (hsub y hy);exact⟨aF this.2,this.1⟩
    obtain⟨v,hv,ht⟩:=Qw (R:=wo R S) (K:=x::l) (fun y hy=>by
     obtain⟨u,hu,hr⟩:=hst y hy;exact⟨u,hu,by unfold wo;simp[hr,(hS u hu).1,(hS y hy).1]⟩) _ x (ax ..) (Nat.le_refl _)
    have:v∈vB R n S:=A8.2 ⟨(hS v hv).2,ht⟩
    rw[h]at this;cases this
theorem S9{n:Nat}{S S':List Nat}(h:∀x,x∈S↔x∈S'):K0 n S=K0 n S':=by
 unfold K0;refine bI fun x _=>?_
 rw[aW,h]
end
end G
end
section
open G
namespace G
section
variable {d:bZ}{S:List bN}
theorem Zg(h:Sm d S)(hn:d.bO.length<=20):Rt d.bO:=
 ⟨by omega,fun c hc=>aaG (h.vd.tR c hc) h.UZ.2,fun c hc=>by
  have:=((h.vd.tR c hc).fit).data h.UZ.1;have h2:=h.new;have h3:=(h.vd.tR c hc).fit.fits;have h4:=(h.vd.tR c hc).fit.IX;by_cases hk:c.kind=1
  . rw[(h.vd.tR c hc).nice.copy hk];simp
  . unfold ea at h3;rw[Dg hk]at h3;omega,fun i hi=>by
  cases hc:Ro d.bO i with
  |false=>rfl
  |true=>exact absurd (DD.2 ⟨i,hi,hc⟩) h.vd.apart⟩
end
def Rl(l:List bN)(i j:Nat):Bool:=decide (i<l.length)&&decide (j∈nb l i)
section
variable {l:List bN}
theorem Oy{i j:Nat}:Rl l i j=true↔i<l.length/\j<l.length/\i≠j/\Hq (cat l i) (cat l j)=true:=by
 unfold Rl;rw[aq,au,au,LM]
theorem Vu(i j:Nat)(h:Rl l i j=true):i<l.length/\j<l.length:=⟨(Oy.1 h).1,(Oy.1 h).2.1⟩
theorem aeo(i j:Nat)(h:Rl l i j=true):i≠j:=(Oy.1 h).2.2.1
theorem T6{i j:Nat}(h:Rl l i j=true):(cat l i).kind=1:=by
 have:=(Oy.1 h).2.2.2;unfold Hq at this;exact(aF this).1
theorem V8(h:Rt l):∃es out oi,q8 l=some ((l.length:Int),es,out,oi)/\PG l.length (Rl l) es out oi:=by
 have hn:=h.len;obtain⟨es,out,oi,L,h1,h2,h3,h4⟩:=So h;refine⟨es,out,oi,h1,⟨L,h2,by omega,fun e=>?_⟩⟩;rw[h4];constructor
 . rintro⟨p,hp,rfl⟩;obtain⟨k1,k2⟩:=Kh.1 hp;exact⟨p.1,p.2,k1,(LM.1 k2).1,by unfold Rl;simp[k1,k2],rfl⟩
 . rintro⟨i,j,hi,hj,hr,rfl⟩;unfold Rl at hr;simp only[aq,au]at hr;exact⟨(i,j),Kh.2 hr,rfl⟩
theorem Ny(h:Rt l):∃E,mU l=some ((l.length:Int),E)/\RG l.length (Rl l) E:=by
 have hn:=h.len;refine⟨_,RA h,?_,fun e=>?_⟩
 . rw[aJ];have:=PH l l.length;have:l.length*l.length<=30*30:=Nat.mul_le_mul hn hn;omega
 . rw[List.mem_map];constructor
   . rintro⟨p,hp,rfl⟩;obtain⟨k1,k2⟩:=Kh.1 hp;exact⟨p.1,p.2,k1,(LM.1 k2).1,by unfold Rl;simp[k1,k2],rfl⟩
   . rintro⟨i,j,hi,hj,hr,rfl⟩;unfold Rl at hr;simp only[aq,au]at hr;exact⟨(i,j),Kh.2 hr,rfl⟩
def lits(l:List bN):List Nat:=(List.range l.length).filter fun i=>decide ((cat l i).kind=2)
def lens(l:List bN):List Int:=l.map (·.len)
noncomputable def ev(l:List bN):List Nat:=Lc (Rl l) l.length (wt (lens l)) l.length []
noncomputable def od(l:List bN):List Nat:=(pf (Rl l) l.length (K0 l.length (lits l++ev l)) []).2
theorem Q1:(lits l).length<=l.length:=my _ _
theorem J3:vB (Rl l) l.length (ev l)=[]/\(ev l).Nodup/\(∀t∈ev l,t<l.length/\(cat l t).kind=1)/\(vB (Rl l) l.length []=[]↔ev l=[]):=by
 obtain⟨h1,h2,h3,h4⟩:=Ud (R:=Rl l) (n:=l.length) (w:=wt (lens l)) l.length [] List.nodup_nil (by simp) (by simp);refine⟨h1,h2,fun t ht=>⟨(h3 t ht).1,?_⟩,h4⟩;rcases(h3 t ht).2 with h|⟨k,h⟩
 . cases h
 . exact T6 h
theorem SQ:(ev l).length<=l.length:=CI _ _ J3.2.1 fun t ht=>(J3.2.2.1 t ht).1
theorem XN{R:Nat->Nat->Bool}{n:Nat}{S S':List Nat}(hs:∀x∈S,x∈S')(h:vB R n S=[]):vB R n S'=[]:=by
 refine aP fun hc=>?_
 cases hl:vB R n S' with
 |nil=>exact hc hl
 |cons v t=>
  obtain⟨h1,h2⟩:=A8.1 (by rw[hl];exact ax .. :v∈vB R n S')
  have hm:∀i j,TC (wo R S') i j->TC (wo R S) i j:=fun i j ht=>by
   have hw:∀i j,wo R S' i j=true->wo R S i j=true:=fun i j hw=>by
    obtain⟨a,b,c⟩:=Dj hw;unfold wo;rw[a,Bool.true_and,aq,au,au];exact⟨fun hm=>b (hs _ hm),fun hm=>c (hs _ hm)⟩
   induction ht with
   |one h=>exact .one (hw _ _ h)
   |cons h _ ih=>exact .cons (hw _ _ h) ih
  have:v∈vB R n S:=A8.2 ⟨h1,hm _ _ h2⟩
  rw[h]at this;cases this
theorem Pr:(pf (Rl l) l.length (K0 l.length (lits l++ev l)) []).1=[]:=(Wc Vu).2 (XN (fun x hx=>by simp[hx]) J3.1)
theorem Ps:(od l).Perm (K0 l.length (lits l++ev l)):=by
 have:=NB (R:=Rl l) l.length (K0 l.length (lits l++ev l)) [] (rl _ _);rw[Pr,aL]at this;exact this
theorem ady{x:Nat}:x∈od l↔x<l.length/\(cat l x).kind≠2/\x ∉ ev l:=by
 rw[Ps.mem_iff];unfold K0;rw[ig,au,aK,not_or];constructor
 . rintro⟨h1,h2,h3⟩;exact⟨h1,fun hk=>h2 (ig.2 ⟨h1,aH hk⟩),h3⟩
 . rintro⟨h1,h2,h3⟩;exact⟨h1,fun hm=>h2 (aF (ig.1 hm).2),h3⟩
theorem adx:(od l).length<=l.length:=by rw[Ps.length_eq];exact my _ _
theorem Q0(hn:l.length<=30)(g1:Int)(g2:List (bP×Bool))(g3 g4:List (Int×List Int)):fT l g1 g2 g3 g4=some (zn (lits l)):=by
 unfold fT lits;refine ue (f:=gI l) l.length (fun i=>decide ((cat l i).kind=2)) (fun k acc=>(zn acc,(k:Int))) _ (fun k hk=>?_) ?_ rfl
 . unfold gI;have:=my k fun i=>decide ((cat l i).kind=2)
   rw[if_pos (by simp only;omega)];simp only[cN hk,aa,dk hk (by omega),bX hk];by_cases h:l[k].kind=2
   . rw[if_pos h,dj (by rw[dC,bp];omega),if_pos (aH h),sP];rfl
   . rw[if_neg h,if_neg (by simpa using h),aL]
 . unfold gI;rw[if_neg (by simp)]
theorem Yk(hn:l.length<=30):Iter (fH l) (([]:List Int),(0:Int))=some (lens l):=by
 refine cb (f:=fH l) l.length (fun k=>(lens (l.take k),(k:Int))) _ (fun k hk=>?_) ?_ (by simp[lens])
 . unfold fH;rw[if_pos (by simp only;omega)];simp only[cN hk,aa,dk hk (by omega)];rw[dj (by unfold lens;simp;omega),aB hk];unfold lens;rw[aY];rfl
 . unfold fH;rw[if_neg (by simp),bn]
theorem Yl(hn:l.length<=30):Iter (jE l) (([]:List Int),(0:Int))=some (lens l):=by
 refine cb (f:=jE l) l.length (fun k=>(lens (l.take k),(k:Int))) _ (fun k hk=>?_) ?_ (by simp[lens])
 . unfold jE;rw[if_pos (by simp only;omega)];simp only[cN hk,aa,dk hk (by omega)];rw[dj (by unfold lens;simp;omega),aB hk];unfold lens;rw[aY];rfl
 . unfold jE;rw[if_neg (by simp),bn]
theorem QY:(lens l).length=l.length:=aJ ..
theorem MS(h:Rt l):∃g,A7 l=some (l,zn (ev l),zn (od l),g):=by
 have hn:=h.len;obtain⟨es,out,oi,h1,hG⟩:=V8 h;unfold A7;rw[h1];simp only[aa];unfold n8;rw[Yk hn];simp only[aa];rw[Q0 hn];simp only[aa];have hll:=Q1 (l:=l);have hel:=SQ (l:=l);rw[Vn hG (by omega) Vu aeo QY (fun v hv k=>by
  cases hr:Rl l v k with
  |false=>rfl
  |true=>
   have:=aF (ig.1 hv).2
   rw[T6 hr]at this;cases this) (by omega)]
 simp only[aa];rw[Q0 hn];simp only[aa];have e:Lc (Rl l) l.length (wt (lens l)) l.length []=ev l:=rfl;rw[e,dj (by rw[dC,dC];omega),<- sP];simp only[aa];rw[Xo hG (by omega) (by simp;omega),if_pos Pr];exact⟨_,rfl⟩
theorem EE(h:Rt l):nr l=some (zn (ev l)):=by
 have hn:=h.len;obtain⟨E,h1,hG⟩:=Ny h;unfold nr;rw[Yl hn];simp only[aa];rw[h1];simp only[aa];rw[PK hG (by omega) Vu QY];rfl
theorem MZ(h:Rt l):sa l=some (zn (od l)):=by
 have hn:=h.len;have hll:=Q1 (l:=l);have hel:=SQ (l:=l);obtain⟨E,h1,hG⟩:=Ny h;unfold sa;rw[EE h];simp only[aa];have hI:Iter (ma l) (zn (ev l),(0:Int))=some (zn (ev l++lits l)):=by
  refine ue (f:=ma l) l.length (fun i=>decide ((cat l i).kind=2)) (fun k acc=>(zn (ev l++acc),(k:Int))) _ (fun k hk=>?_) ?_ (by simp)
  . unfold ma;have:=my k fun i=>decide ((cat l i).kind=2)
    rw[if_pos (by simp only;omega)];simp only[cN hk,aa,dk hk (by omega),bX hk];by_cases h:l[k].kind=2
    . rw[if_pos h,dj (by rw[dC,ak,bp];omega),if_pos (aH h),<- az,sP (_++_)];rfl
    . rw[if_neg h,if_neg (by simpa using h),aL]
  . unfold ma;rw[if_neg (by simp)];rfl
 rw[hI];simp only[aa];rw[h1];simp only[aa];rw[RB hG Vu (by omega) (by simp;omega),S9 (S':=lits l++ev l) (fun x=>by rw[aK,aK,or_comm]),if_pos Pr];rfl
end
end G
end
end Go.Proofs.YtekpafdhgkocaaaGreat
