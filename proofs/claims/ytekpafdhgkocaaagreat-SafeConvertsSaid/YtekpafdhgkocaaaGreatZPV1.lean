/- Part of the proof. -/
import Derived.Test.YtekpafdhgkocaaaGreatZPLV
namespace Go.Proofs.YtekpafdhgkocaaaGreat
section
open G
namespace G
def zn(l:List Nat):List Int:=l.map fun k:Nat=>(k:Int)
theorem da(l:List Nat):(zn l).length=l.length:=aI ..
theorem re(a b:List Nat):zn (a++b)=zn a++zn b:=bc
theorem qc{l:List Nat}{k:Nat}:(k:Int)∈zn l↔k∈l:=by
 unfold zn
 rw[List.mem_map]
 refine⟨fun⟨j,h,e⟩=>?_,fun h=>⟨k,h,rfl⟩⟩
 obtain rfl:j=k:=by omega
 exact h
theorem DV{l:List Nat}{x:Int}:x∈zn l↔∃ k∈l,x=(k:Int):=by
 unfold zn
 rw[List.mem_map]
 exact⟨fun⟨j,h,e⟩=>⟨j,h,e.symm⟩,fun⟨j,h,e⟩=>⟨j,h,e.symm⟩⟩
theorem zo{l:List Nat}{i:Nat}(h:i<l.length):idx (zn l) (i:Int)=some ((l[i]:Nat):Int):=by
 rw[cH (by rw[da];exact h)];simp[zn]
theorem PX(l:List Nat)(k:Nat):(zn l).take k=zn (l.take k):=List.map_take.symm
theorem WL(l:List Nat)(k:Nat):(zn l).drop k=zn (l.drop k):=List.map_drop.symm
theorem M1{l:List Nat}(h:l.Nodup):(zn l).Nodup:=QU (fun a b e=>by omega) h
theorem EX{l:List Nat}(h:l.Pairwise (· < ·)):(zn l).Pairwise (· <= ·):=by
 unfold zn
 rw[List.pairwise_map]
 exact h.imp fun h=>by omega
theorem Bi(n:Nat)(p:Nat->Bool):((List.range n).filter p).Pairwise (· < ·):=List.Pairwise.filter _ List.pairwise_lt_range
theorem oX(n:Nat)(p:Nat->Bool):((List.range n).filter p).Nodup:=List.Pairwise.filter _ List.nodup_range
theorem lM(n:Nat)(p:Nat->Bool):((List.range n).filter p).length<=n:=by have:=bC p (List.range n);simpa using this
theorem gM{n k:Nat}{p:Nat->Bool}:k∈(List.range n).filter p↔k<n/\p k=true:=by rw[aR,List.mem_range]
theorem Wh(k:Nat)(p:Nat->Bool):(List.range (k+1)).filter p=(List.range k).filter p++if p k=true then[k]else[]:=by
 rw[List.range_succ,List.filter_append]
 cases h:p k<;>simp[h]
theorem r8{σ α:Type}{f:σ->Option (σ⊕α)}(n:Nat)(p:Nat->Bool)(st:Nat->List Nat->σ)(r:α)
 (hstep:∀ k,k<n->f (st k ((List.range k).filter p))=some (.inl (st (k+1) ((List.range k).filter p++if p k=true then[k]else[])))) (hend:f (st n ((List.range n).filter p))=some (.inr r)) {s:σ} (hs:s=st 0 []):Iter f s=some r:=
 cD n (fun k=>st k ((List.range k).filter p)) r (fun k hk=>by rw[Wh];exact hstep k hk) hend hs
def mk(l:List Nat)(f:Nat->Int):List (Int×Int):=l.map fun k:Nat=>((k:Int),f k)
theorem mk_congr{l:List Nat}{f g:Nat->Int}(h:∀ k∈l,f k=g k):mk l f=mk l g:=List.map_congr_left fun k hk=>by rw[h k hk]
theorem Hk{l:List Nat}{f:Nat->Int}(k:Nat):dG cR (mk l f) (k:Int)=if k∈l then some (f k)else none:=by
 induction l with
 | nil=>rfl
 | cons x l ih=>
   unfold mk at ih ⊢
   rw[aP,tP,ih]
   by_cases h:k=x
   . subst h;rw[if_pos (gi.refl _),if_pos (ay ..)]
   . rw[if_neg (by rw[gi.ne fun e=>h (by simp only at e;omega)];simp)]
     by_cases h2:k∈l
     . rw[if_pos h2,if_pos (aE _ h2)]
     . rw[if_neg h2,if_neg fun hm=>(aV.1 hm).elim h h2]
def UQ(f:Nat->Int)(k:Nat)(y:Int)(x:Nat):Int:=if x=k then y else f x
theorem Te{l:List Nat}{f:Nat->Int}(k:Nat):(mk l f).any (fun p=>cR (k:Int) p.1)=decide (k∈l):=by
 rw[Bool.eq_iff_iff,br,au]
 unfold mk
 constructor
 . rintro⟨p,hp,he⟩
   obtain⟨j,hj,rfl⟩:=List.mem_map.1 hp
   have:=(gi _ _).1 he
   obtain rfl:k=j:=by simp only at this;omega
   exact hj
 . exact fun h=>⟨_,List.mem_map.2 ⟨k,h,rfl⟩,gi.refl _⟩
theorem Tf{l:List Nat}{f:Nat->Int}{k:Nat}{y:Int}(h:k∈l):kZ cR (mk l f) (k:Int) y=mk l (UQ f k y):=by
 unfold kZ
 rw[Te,if_pos (aF h)]
 unfold mk
 rw[List.map_map]
 refine List.map_congr_left fun x _=>?_
 simp only[Function.comp,UQ]
 by_cases e:x=k
 . subst e;rw[if_pos (gi.refl _),if_pos rfl]
 . rw[if_neg (by rw[gi.ne fun e'=>e (by omega)];simp),if_neg e]
theorem XQ{l:List Nat}{f:Nat->Int}{k:Nat}{y:Int}(h:k ∉ l)(hf:f k=y):kZ cR (mk l f) (k:Int) y=mk (l++[k]) f:=by
 unfold kZ
 rw[Te,if_neg (by simp[h])]
 unfold mk
 rw[bc,<- hf];rfl
theorem XO{l:List Nat}{f:Nat->Int}(k:Nat):QM cR (mk l f) (k:Int)=mk (l.filter fun x=>decide (x≠k)) f:=by
 unfold QM mk
 rw[List.filter_map]
 congr 1
 refine bI fun x _=>?_
 simp only[Function.comp]
 by_cases e:x=k
 . subst e;rw[gi.refl];simp
 . rw[gi.ne fun e'=>e (by omega)];simp[e]
theorem XP(l:List Nat)(f:Nat->Int):(mk l f).length=l.length:=aI ..
theorem VO(l:List Nat)(f:Nat->Int):(mk l f).map (fun e=>e.1)=zn l:=by unfold mk zn;rw[List.map_map];rfl
def outs(R:Nat->Nat->Bool)(n v:Nat):List Nat:=(List.range n).filter (R v)
def ins(R:Nat->Nat->Bool)(n v:Nat):List Nat:=(List.range n).filter fun u=>R u v
structure PG(n:Nat)(R:Nat->Nat->Bool)(es:List (G.bN×Bool))(out mX:List (Int×List Int)):Prop where
 ex:∃ L:List G.bN,GR L es out mX/\L.length<=2000/\∀ e,e∈L↔∃ i j:Nat,i<n/\j<n/\R i j=true/\e=⟨(i:Int),(j:Int)⟩
section
variable {n:Nat}{R:Nat->Nat->Bool}{es:List (G.bN×Bool)}{out mX:List (Int×List Int)}
theorem Jx{L:List G.bN}(hn:L.Nodup)(a b:G.bN->Int)(hab:∀ e e':G.bN,a e=a e'->b e=b e'->e=e')(v:Nat){w:List Nat}(hw:w.Nodup)(hm:∀ x:Int,(∃ e∈L,a e=(v:Int)/\b e=x)↔x∈zn w):
 ((L.filter fun e=>cR (a e) (v:Int)).map b).Perm (zn w):=by
 refine(List.perm_ext_iff_of_nodup ?_ (M1 hw)).2 fun x=>?_
 . rw[List.nodup_iff_pairwise_ne,List.pairwise_map]
   refine List.Pairwise.imp_of_mem (R:=fun a b=>a≠b) (fun{p q} hp hq hne e=>hne ?_) (List.Pairwise.filter _ hn)
   have e1:=(gi _ _).1 (aR.1 hp).2
   have e2:=(gi _ _).1 (aR.1 hq).2
   exact hab _ _ (e1.trans e2.symm) e
 . rw[List.mem_map,<- hm]
   constructor
   . rintro⟨e,he,rfl⟩
     obtain⟨h1,h2⟩:=aR.1 he
     exact⟨e,h1,(gi _ _).1 h2,rfl⟩
   . rintro⟨e,h1,h2,rfl⟩
     exact⟨e,aR.2 ⟨h1,(gi _ _).2 h2⟩,rfl⟩
theorem OT{e e':G.bN}(h1:e.from_=e'.from_)(h2:e.to=e'.to):e=e':=by cases e;cases e';simp only at h1 h2;subst h1 h2;rfl
theorem PG.ZY(h:PG n R es out mX){v:Nat}(hv:v<n):((dG cR out (v:Int)).getD []).Perm (zn (outs R n v)):=by
 obtain⟨L,hG,_,h3⟩:=h.ex
 rw[hG.out]
 refine Jx hG.nd (·.from_) (·.to) (fun e e'=>OT) v (oX _ _) fun x=>?_
 rw[DV]
 constructor
 . rintro⟨e,he,h1,rfl⟩
   obtain⟨i,j,hi,hj,hr,rfl⟩:=(h3 e).1 he
   obtain rfl:i=v:=by simp only at h1;omega
   exact⟨j,gM.2 ⟨hj,hr⟩,rfl⟩
 . rintro⟨j,hj,rfl⟩
   obtain⟨h1,h2⟩:=gM.1 hj
   exact⟨⟨(v:Int),(j:Int)⟩,(h3 _).2 ⟨v,j,hv,h1,h2,rfl⟩,rfl,rfl⟩
theorem PG.inp(h:PG n R es out mX){v:Nat}(hv:v<n):((dG cR mX (v:Int)).getD []).Perm (zn (ins R n v)):=by
 obtain⟨L,hG,_,h3⟩:=h.ex
 rw[hG.mX]
 refine Jx hG.nd (·.to) (·.from_) (fun e e' h1 h2=>OT h2 h1) v (oX _ _) fun x=>?_
 rw[DV]
 constructor
 . rintro⟨e,he,h1,rfl⟩
   obtain⟨i,j,hi,hj,hr,rfl⟩:=(h3 e).1 he
   obtain rfl:j=v:=by simp only at h1;omega
   exact⟨i,gM.2 ⟨hi,hr⟩,rfl⟩
 . rintro⟨j,hj,rfl⟩
   obtain⟨h1,h2⟩:=gM.1 hj
   exact⟨⟨(j:Int),(v:Int)⟩,(h3 _).2 ⟨j,v,h1,hv,h2,rfl⟩,rfl,rfl⟩
theorem Iy{v w:List Int}(hw:v.Perm w)(hs:w.Pairwise (· <= ·))(hn:w.length<50):G.cV v=some w:=by
 have hl:=hw.length_eq
 unfold G.cV
 rw[Na _ (by omega)]
 simp only[ae]
 obtain⟨r,e,h1,h2⟩:=QO.tZ v (by omega)
 rw[e]
 simp only[ae]
 rw[JC (h1.trans hw) h2 hs]
theorem PG.Out(h:PG n R es out mX)(hn:n<50){v:Nat}(hv:v<n)(N:Int)(e2:List (G.bN×Bool))(i2:List (Int×List Int)):G.pj (v:Int) N e2 out i2=some (zn (outs R n v)):=by
 have:=lM n (R v)
 unfold G.pj G.jf
 simp only[ae]
 rw[Iy (h.ZY hv) (EX (Bi _ _)) (by rw[da];unfold outs;omega)];rfl
theorem PG.In(h:PG n R es out mX)(hn:n<50){v:Nat}(hv:v<n)(N:Int)(e2:List (G.bN×Bool))(o2:List (Int×List Int)):G.ql (v:Int) N e2 o2 mX=some (zn (ins R n v)):=by
 have:=lM n fun u=>R u v
 unfold G.ql G.jf
 simp only[ae]
 rw[Iy (h.inp hv) (EX (Bi _ _)) (by rw[da];unfold ins;omega)];rfl
def wo(R:Nat->Nat->Bool)(S:List Nat)(i j:Nat):Bool:=R i j&&(decide (i ∉ S)&&decide (j ∉ S))
theorem Gp{γ:Type}{S:List Nat}(hS:S.length<=1000)(hR:∀ i j,R i j=true->i≠j)(kk:((List (G.bN×Bool))×Int×(List (G.bN×Bool))×(List (Int×(List Int)))×(List (Int×(List Int))))->Option γ){r:γ}{L:List G.bN}(hL:L.length<=2000)(hnd:L.Nodup)
 (h3:∀ e,e∈L↔∃ i j:Nat,i<n/\j<n/\R i j=true/\e=⟨(i:Int),(j:Int)⟩) (y1:Int×(List (G.bN×Bool))×(List (Int×(List Int)))×(List (Int×(List Int)))) (hy:y1.1=(n:Int))
 (hk:∀ es2 out2 inn2,PG n (wo R S) es2 out2 inn2->kk (es,(n:Int),es2,out2,inn2)=some r):
 ∀ (p done:List G.bN) (LL:List G.bN) (es2:List (G.bN×Bool)) (out2 inn2:List (Int×List Int)),(done++p).Perm L->GR LL es2 out2 inn2->LL.length<=done.length->(∀ e,e∈LL↔e∈done/\e.from_ ∉ zn S/\e.to ∉ zn S)->
  n5 (G.fj (zn S) y1) (G.jO kk y1) p (es,es2,out2,inn2)=some r
 | [],done,LL,es2,out2,inn2,hp,hG,hl,hm=>by
   rw[aN]at hp
   unfold n5 G.jO
   rw[hy,hk es2 out2 inn2 ⟨LL,hG,by have:=hp.length_eq;omega,fun e=>?_⟩];rfl
   rw[hm,hp.mem_iff,h3]
   constructor
   . rintro⟨⟨i,j,hi,hj,hr,rfl⟩,h1,h2⟩
     exact⟨i,j,hi,hj,by unfold wo;simp only[qc]at h1 h2;simp[hr,h1,h2],rfl⟩
   . rintro⟨i,j,hi,hj,hr,rfl⟩
     unfold wo at hr
     simp only[al,au]at hr
     exact⟨⟨i,j,hi,hj,hr.1,rfl⟩,by simp only[qc];exact hr.2.1,by simp only[qc];exact hr.2.2⟩
 | e::p,done,LL,es2,out2,inn2,hp,hG,hl,hm=>by
   have hlen:=hp.length_eq
   rw[aq,bK]at hlen
   have heL:e∈L:=hp.mem_iff.1 (by simp)
   obtain⟨i,j,hi,hj,hr,rfl⟩:=(h3 e).1 heL
   have hnd2:=(hp.nodup_iff).2 hnd
   have hed:(⟨(i:Int),(j:Int)⟩:G.bN) ∉ done:=fun hd=>(List.nodup_append.1 hnd2).2.2 _ hd _ (ay ..) rfl
   have hp':((done++[(⟨(i:Int),(j:Int)⟩:G.bN)])++p).Perm L:=by rw[aA];exact hp
   have hgo:∀ {LL':List G.bN} {es3:List (G.bN×Bool)} {out3 inn3:List (Int×List Int)},G.fj (γ:=γ) (zn S) y1 ⟨(i:Int),(j:Int)⟩ (es,es2,out2,inn2)=some (.inl (es,es3,out3,inn3))->GR LL' es3 out3 inn3->LL'.length<=done.length+1->
    (∀ e,e∈LL'↔e∈done++[⟨(i:Int),(j:Int)⟩]/\e.from_ ∉ zn S/\e.to ∉ zn S)->n5 (G.fj (zn S) y1) (G.jO kk y1) (⟨(i:Int),(j:Int)⟩::p) (es,es2,out2,inn2)=some r:=fun h1 h2 h3' h4=>by
    unfold n5
    rw[h1]
    exact Gp hS hR kk hL hnd h3 y1 hy hk p _ _ _ _ _ hp' h2 (by simpa using h3') h4
   have hc1:=qg (zn S) (i:Int) (by rw[da];omega)
   have hc2:=qg (zn S) (j:Int) (by rw[da];omega)
   by_cases hc:(i:Int) ∉ zn S/\(j:Int) ∉ zn S
   . obtain⟨k,es3,out3,inn3,L3,ha,hG3,hor⟩:=RM (n:=(n:Int)) hG (i:=(i:Int)) (j:=(j:Int)) (by omega) (by omega) (by omega) (by omega) (by omega)
     rcases hor with⟨h4|h4,_⟩|⟨_,rfl⟩
     . exact absurd (by omega:i=j) (hR i j hr)
     . exact absurd ((hm _).1 h4).1 hed
     . refine hgo (es3:=es3) (out3:=out3) (inn3:=inn3) ?_ hG3 (by simp;omega) fun e=>?_
       . unfold G.fj
         simp only[hc1,hc2,ae,hy,ha]
         rw[if_pos (by simp[hc.1])]
         simp only[ae]
         rw[if_pos (by simp[hc.2])]
       . rw[aL,aL,hm,List.mem_singleton]
         constructor
         . rintro(h|rfl)
           . exact⟨.inl h.1,h.2⟩
           . exact⟨.inr rfl,hc⟩
         . rintro⟨h|rfl,h2⟩
           . exact .inl ⟨h,h2⟩
           . exact .inr rfl
   . refine hgo ?_ hG (by omega) fun e=>?_
     . unfold G.fj
       simp only[hc1,hc2,ae]
       by_cases h1:(i:Int)∈zn S
       . rw[if_neg (by simp[h1])]
         simp only[ae]
         rw[if_neg (by simp)]
       . rw[if_pos (by simp[h1])]
         simp only[ae]
         rw[if_neg (by
          have:(j:Int)∈zn S:=aQ fun h2=>hc ⟨h1,h2⟩
          simp[this])]
     . rw[hm,aL,List.mem_singleton]
       constructor
       . exact fun h=>⟨.inl h.1,h.2⟩
       . rintro⟨h|rfl,h2⟩
         . exact⟨h,h2⟩
         . exact absurd h2 hc
theorem PG.CE{γ:Type}(h:PG n R es out mX)(hn:n<=1000){S:List Nat}(hS:S.length<=1000)(hR:∀ i j,R i j=true->i≠j)(kk:((List (G.bN×Bool))×Int×(List (G.bN×Bool))×(List (Int×(List Int)))×(List (Int×(List Int))))->Option γ){r:γ}
 (hk:∀ es2 out2 inn2,PG n (wo R S) es2 out2 inn2->kk (es,(n:Int),es2,out2,inn2)=some r):G.mq (zn S) (n:Int) es out mX kk=some r:=by
 obtain⟨L,hG,hL,h3⟩:=h.ex
 unfold G.mq G.sd
 rw[if_neg (by omega)]
 simp only[ae]
 rw[if_neg (by simp;omega)]
 simp only[ae]
 have hkeys:List.map (fun e:G.bN×Bool=>e.1) es=L:=by rw[hG.es,List.map_map];exact List.map_id' L
 rw[hkeys]
 exact zI ⟨L,List.Perm.refl _⟩ fun p hp=>Gp hS hR kk hL hG.nd h3 _ rfl hk p [] [] [] [] [] hp GR.nil (Nat.zero_le _) fun e=>by simp
end
end G
end
section
open G
namespace G
theorem Ia{a b:List Nat}(h:a.Perm b)(ha:a.Pairwise (· < ·))(hb:b.Pairwise (· < ·)):a=b:=
 List.Perm.eq_of_pairwise (le:=(· <= ·)) (fun x y _ _ h1 h2=>Nat.le_antisymm h1 h2) (ha.imp Nat.le_of_lt) (hb.imp Nat.le_of_lt) h
theorem Kw{w:Nat}:∀ {l:List Nat},l.Pairwise (· < ·)->∀ {h:Nat} (hh:h<l.length),l[h]<w↔h<(l.filter fun x=>decide (x<w)).length
 | [],_,_,hh=>absurd hh (Nat.not_lt_zero _)
 | x::l,hs,h,hh=>by
   obtain⟨h1,h2⟩:=List.pairwise_cons.1 hs
   rw[List.filter_cons]
   by_cases hx:x<w
   . rw[if_pos (aF hx),bK]
     cases h with
     | zero=>simp[hx]
     | succ h=>rw[List.getElem_cons_succ,Kw h2 (by simpa using hh)];omega
   . rw[if_neg (by simpa using hx)]
     have:(l.filter fun x=>decide (x<w))=[]:=by
      rw[List.filter_eq_nil_iff]
      intro y hy
      have:=h1 y hy
      simp;omega
     rw[this]
     cases h with
     | zero=>simp;omega
     | succ h=>
       rw[List.getElem_cons_succ]
       have:=h1 _ (az (by simpa using hh:h<l.length))
       simp;omega
def xZ(l:List Nat)(w:Nat):Nat:=(l.filter fun x=>decide (x<w)).length
theorem KN(l:List Nat)(w:Nat):xZ l w<=l.length:=bC _ _
theorem Zz{l:List Nat}(hs:l.Pairwise (· < ·))(w:Nat)(hn:l.length<=1000):∃ b,G.fS (zn l) (w:Int)=some ((xZ l w:Int),b):=by
 have hp:=KN l w
 have key:∃ r,Iter (G.gN (zn l) (w:Int)) ((0:Int),((zn l).length:Int))=some r/\r=(xZ l w:Int):=by
  refine cu (fun m s=>∃ i j:Nat,s=((i:Int),(j:Int))/\i<=xZ l w/\xZ l w<=j/\j<=l.length/\m=j-i) (fun r=>r=(xZ l w:Int)) (fun m s hI=>?_) l.length _ ⟨0,l.length,by rw[da];rfl,Nat.zero_le _,hp,Nat.le_refl _,by omega⟩
  obtain⟨i,j,rfl,h1,h2,h3,rfl⟩:=hI
  unfold G.gN
  by_cases hij:i<j
  . rw[if_pos (by simp only;omega)]
    simp only
    rw[NS (k:=i+j) (by omega) (by omega)]
    have hm:(i+j)/2<l.length:=by omega
    rw[zo hm]
    have hlt:=Kw (w:=w) hs hm
    have hlt:l[(i+j)/2]<w↔(i+j)/2<xZ l w:=hlt
    have hless:G.db ((l[(i+j)/2]:Nat):Int) (w:Int)=some (decide (l[(i+j)/2]<w)):=by
     unfold G.db G.ij
     simp
    simp only[ae,hless]
    by_cases hc:l[(i+j)/2]<w
    . rw[aF hc,if_pos rfl,dk hm (by omega)]
      exact .inl ⟨_,_,rfl,by omega,(i+j)/2+1,j,rfl,by omega,h2,h3,rfl⟩
    . rw[decide_eq_false hc,if_neg (by simp)]
      exact .inl ⟨_,_,rfl,by omega,i,(i+j)/2,rfl,h1,by omega,by omega,rfl⟩
  . rw[if_neg (by simp only;omega)]
    exact .inr ⟨_,rfl,by simp only;omega⟩
 obtain⟨r,e,rfl⟩:=key
 unfold G.fS
 rw[e]
 simp only[ae]
 split
 . rename_i hlt
   rw[da]at hlt
   rw[zo (by omega)]
   simp only[ae]
   split
   . exact⟨_,rfl⟩
   . unfold G.qI
     simp
 . exact⟨_,rfl⟩
theorem L5{l:List Nat}(hs:l.Pairwise (· < ·)){w:Nat}(hw:w ∉ l):(l.take (xZ l w)++([w]++l.drop (xZ l w))).Pairwise (· < ·):=by
 have hp:=KN l w
 rw[List.pairwise_append]
 refine⟨hs.take,?_,fun a ha b hb=>?_⟩
 . rw[List.singleton_append,List.pairwise_cons]
   refine⟨fun a ha=>?_,hs.drop⟩
   obtain⟨i,hi,rfl⟩:=bw.1 ha
   rw[bj]at hi
   rw[List.getElem_drop]
   have:=Kw (w:=w) hs (show xZ l w+i<l.length by omega)
   have h2:¬ l[xZ l w+i]<w:=fun h=>by have:=this.1 h;unfold xZ at this;omega
   have h3:l[xZ l w+i]≠w:=fun e=>hw (by rw[<- e];exact az _)
   omega
 . obtain⟨i,hi,rfl⟩:=bw.1 ha
   rw[aM]at hi
   have h1:l[i]<w:=(Kw hs (by omega)).2 (by unfold xZ at hi;omega)
   rw[List.getElem_take]
   rw[List.singleton_append]at hb
   rcases aV.1 hb with rfl|hb
   . exact h1
   . obtain⟨j,hj,rfl⟩:=bw.1 hb
     rw[bj]at hj
     rw[List.getElem_drop]
     exact a7.1 hs _ _ _ _ (by omega)
theorem SK{l:List Nat}{w x:Nat}:x∈l.take (xZ l w)++([w]++l.drop (xZ l w))↔x=w\/x∈l:=by
 rw[aL,aL,List.mem_singleton]
 conv=>rhs;rw[<- List.take_append_drop (xZ l w) l,aL]
 exact⟨fun h=>by rcases h with h|h|h<;>simp[h],fun h=>by rcases h with h|h|h<;>simp[h]⟩
theorem P4{l:List Nat}(hs:l.Pairwise (· < ·)){w:Nat}(hw:w ∉ l)(hn:l.length<=1000){T:List Nat}(hT:T.Pairwise (· < ·))(hm:∀ x,x∈T↔x=w\/x∈l):G.jR (xZ l w:Int) [(w:Int)] (zn l)=some (zn T):=by
 have hp:=KN l w
 unfold G.jR xN
 rw[if_pos ⟨by omega,by rw[da];omega,by simp,by rw[da];simp;omega⟩,aK,PX,WL]
 congr 1
 have e:T=l.take (xZ l w)++([w]++l.drop (xZ l w)):=by
  have h2:=L5 hs hw
  refine Ia ((List.perm_ext_iff_of_nodup (hT.imp fun h e=>by omega) (h2.imp fun h e=>by omega)).2 fun x=>?_) hT h2
  rw[hm,SK]
 rw[e,re,re];rfl
def qf(R:Nat->Nat->Bool)(K:List Nat)(x:Nat):Nat:=(K.filter fun u=>R u x).length
def mJ(R:Nat->Nat->Bool):Nat->List Nat->List Nat->List Nat×List Nat
 | 0,K,out=>(K,out)
 | m+1,K,out=>match K.find? fun x=>decide (qf R K x=0)with
   | none=>(K,out)
   | some v=>mJ R m (K.filter fun x=>decide (x≠v)) (out++[v])
theorem xY{K:List Nat}(hn:K.Nodup){v:Nat}(hv:v∈K):K.Perm (v::K.filter fun x=>decide (x≠v)):=by
 refine(List.perm_ext_iff_of_nodup hn (List.nodup_cons.2 ⟨by simp,List.Pairwise.filter _ hn⟩)).2 fun x=>?_
 rw[aV,aR,au]
 by_cases e:x=v
 . subst e;simp[hv]
 . simp[e]
theorem Vd{R:Nat->Nat->Bool}{K:List Nat}(hn:K.Nodup){v:Nat}(hv:v∈K)(x:Nat):qf R K x=qf R (K.filter fun x=>decide (x≠v)) x+if R v x=true then 1 else 0:=by
 unfold qf
 rw[((xY hn hv).filter _).length_eq,List.filter_cons]
 split<;>simp
theorem Xk(R:Nat->Nat->Bool)(K:List Nat)(x:Nat):qf R K x<=K.length:=bC _ _
theorem CU{R:Nat->Nat->Bool}{K:List Nat}{x:Nat}:qf R K x=0↔∀ u∈K,R u x=false:=by
 unfold qf
 rw[List.length_eq_zero_iff,List.filter_eq_nil_iff]
 simp
section
variable {n:Nat}{R:Nat->Nat->Bool}{es:List (G.bN×Bool)}{out mX:List (Int×List Int)}
theorem VB{q:Nat->Bool}{K:List Nat}(hK:K=(List.range n).filter q)(k:Nat):((ins R n k).filter fun u=>decide (u∈K)).length=qf R K k:=by
 unfold ins qf
 rw[List.filter_filter]
 conv=>rhs;rw[hK]
 rw[List.filter_filter]
 congr 1
 refine bI fun u hu=>?_
 have:decide (u∈K)=q u:=by
  rw[hK,Bool.eq_iff_iff,au,gM]
  have:=List.mem_range.1 hu
  simp[this]
 rw[this,Bool.and_comm]
theorem Vi(h:PG n R es out mX)(hn:n<50){q:Nat->Bool}{K:List Nat}(hK:K=(List.range n).filter q){k:Nat}(hk:k∈K)(f:Nat->Int)(hf:f k=0):
 G.tn (n:Int) es out mX (k:Int) (mk K f)=some (.inl (mk K (UQ f k (qf R K k)))):=by
 have hkn:k<n:=by rw[hK]at hk;exact(gM.1 hk).1
 unfold G.tn
 rw[h.In hn hkn]
 simp only[ae]
 have hl:(ins R n k).length<=n:=lM n fun u=>R u k
 refine cD (f:=G.tp (k:Int) (zn (ins R n k))) (ins R n k).length (fun t=>((t:Int),mk K (UQ f k (((ins R n k).take t).filter fun u=>decide (u∈K)).length))) _ (fun t ht=>?_) ?_ ?_
 . unfold G.tp
   rw[if_pos (by rw[da];omega),zo ht]
   simp only[ae,Hk,dk ht (by omega)]
   have htk:=aD ht
   have hle:(((ins R n k).take t).filter fun u=>decide (u∈K)).length<=n:=Nat.le_trans (bC _ _) (by rw[aM];omega)
   by_cases hu:(ins R n k)[t]∈K
   . rw[if_pos hu,if_pos (by rfl),if_pos hk,zT (by rfl)]
     simp only[ae,Option.getD_some]
     rw[Tf hk]
     refine congrArg (fun x=>some (Sum.inl (_,x))) (mk_congr fun x _=>?_)
     unfold UQ
     by_cases e:x=k
     . rw[if_pos e,if_pos e,if_pos rfl,fB (by omega) (by omega),htk,List.filter_append,aq]
       simp[hu]
     . rw[if_neg e,if_neg e,if_neg e]
   . rw[if_neg hu,if_neg (by simp)]
     refine congrArg (fun x=>some (Sum.inl (_,x))) (mk_congr fun x _=>?_)
     rw[htk,List.filter_append]
     simp[hu]
 . unfold G.tp
   rw[if_neg (by rw[da];omega),bD,VB hK]
 . refine congrArg (fun x=>((0:Int),x)) (mk_congr fun x _=>?_)
   unfold UQ
   split
   . rename_i e;rw[e,hf];simp
   . rfl
theorem Sp(h:PG n R es out mX)(hn:n<50){q:Nat->Bool}{K:List Nat}(hK:K=(List.range n).filter q):∀ (p done:List Int),(done++p).Perm (zn K)->
 n5 (G.tn (n:Int) es out mX) G.wC p (mk K fun x=>if(x:Int)∈done then(qf R K x:Int)else 0)=some (mk K fun x=>(qf R K x:Int))
 | [],done,hp=>by
   rw[aN]at hp
   unfold n5 G.wC
   refine congrArg some (mk_congr fun x hx=>?_)
   rw[if_pos (hp.mem_iff.2 (qc.2 hx))]
 | x::p,done,hp=>by
   obtain⟨k,hk,rfl⟩:=DV.1 (hp.mem_iff.1 (by simp:x∈done++x::p))
   have hKn:K.Nodup:=by rw[hK];exact oX _ _
   have hnd:=(hp.nodup_iff).2 (M1 hKn)
   have hkd:(k:Int) ∉ done:=fun hd=>(List.nodup_append.1 hnd).2.2 _ hd _ (ay ..) rfl
   unfold n5
   rw[Vi h hn hK hk _ (if_neg hkd)]
   simp only[ae]
   rw[<- Sp h hn hK p (done++[(k:Int)]) (by rw[aA];exact hp)]
   refine congrArg _ (mk_congr fun y _=>?_)
   unfold UQ
   by_cases e:y=k
   . subst e;rw[if_pos rfl,if_pos (by simp)]
   . rw[if_neg e]
     have:((y:Int)∈done++[(k:Int)])↔(y:Int)∈done:=by simp;omega
     simp only[this]
theorem VJ{S:List Nat}(hS:S.length<=1000)(hn:n<50):Iter (G.pZ (zn S) (n:Int)) ((0:Int),([]:List (Int×Int)))=some (mk ((List.range n).filter fun x=>decide (x ∉ S)) fun _=>0):=by
 refine r8 (f:=G.pZ (zn S) (n:Int)) n (fun x=>decide (x ∉ S)) (fun k acc=>((k:Int),mk acc fun _=>0)) _ (fun k hk=>?_) ?_ rfl
 . unfold G.pZ
   rw[if_pos (by simp only;omega),qg _ _ (by rw[da];omega)]
   simp only[ae,dk hk (by omega),qc]
   by_cases h:k∈S
   . rw[if_neg (by simp[h]),if_neg (by simp[h]),aN]
   . rw[if_pos (by simp[h]),if_pos (by simp[h]),XQ (fun hm=>by have:=(gM.1 hm).1;omega) rfl]
 . unfold G.pZ
   rw[if_neg (by simp)]
theorem TV(hn:n<50){q:Nat->Bool}{K:List Nat}(hK:K=(List.range n).filter q)(f:Nat->Int):Iter (G.p7 (mk K f) (n:Int)) ((0:Int),([]:List Int))=some (zn (K.filter fun x=>decide (f x=0))):=by
 have e:(K.filter fun x=>decide (f x=0))=(List.range n).filter fun x=>decide (x∈K)&&decide (f x=0):=by
  conv=>lhs;rw[hK]
  rw[List.filter_filter]
  refine bI fun u hu=>?_
  have:decide (u∈K)=q u:=by
   rw[hK,Bool.eq_iff_iff,au,gM]
   have:=List.mem_range.1 hu
   simp[this]
  rw[this,Bool.and_comm]
 rw[e]
 refine r8 (f:=G.p7 (mk K f) (n:Int)) n (fun x=>decide (x∈K)&&decide (f x=0)) (fun k acc=>((k:Int),zn acc)) _ (fun k hk=>?_) ?_ rfl
 . unfold G.p7
   rw[if_pos (by simp only;omega)]
   simp only[Hk,dk hk (by omega)]
   by_cases h:k∈K
   . rw[if_pos h]
     simp only[Option.isSome_some,if_true,ae,Option.getD_some]
     by_cases h2:f k=0
     . rw[if_pos (by simp[h2]),dT (by rw[da];have:=lM k fun x=>decide (x∈K)&&decide (f x=0);simp;omega)]
       simp only[ae]
       rw[if_pos (by simp[h,h2]),re];rfl
     . rw[if_neg (by simp[h2]),if_neg (by simp[h2]),aN]
   . rw[if_neg h]
     simp[h]
 . unfold G.p7
   rw[if_neg (by simp)]
def dg(R:Nat->Nat->Bool)(K W:List Nat)(x:Nat):Int:=(qf R K x:Int)-if x∈W then 1 else 0
theorem T4(hn:n<50){q:Nat->Bool}{K:List Nat}(hK:K=(List.range n).filter q){v:Nat}(hv:v∈K)(y23:List Int):
 Iter (G.qa y23 (zn (outs R n v))) ((0:Int),mk (K.filter fun x=>decide (x≠v)) (fun x=>(qf R K x:Int)),zn ((K.filter fun x=>decide (x≠v)).filter fun x=>decide ((qf R K x:Int)=0)))=
  some (.inl (mk (K.filter fun x=>decide (x≠v)) (fun x=>(qf R (K.filter fun x=>decide (x≠v)) x:Int)),y23,zn ((K.filter fun x=>decide (x≠v)).filter fun x=>decide ((qf R (K.filter fun x=>decide (x≠v)) x:Int)=0)))):=by
 have hKn:K.Nodup:=by rw[hK];exact oX _ _
 have hKl:K.length<=n:=by rw[hK];exact lM _ _
 have hKs:K.Pairwise (· < ·):=by rw[hK];exact Bi _ _
 have hlast:∀ x∈K.filter (fun x=>decide (x≠v)),dg R K (outs R n v) x=(qf R (K.filter fun x=>decide (x≠v)) x:Int):=fun x hx=>by
  have hxn:x<n:=by
   have:=(aR.1 hx).1
   rw[hK]at this;exact(gM.1 this).1
  unfold dg
  rw[Vd hKn hv x]
  have:x∈outs R n v↔R v x=true:=by unfold outs;rw[gM];simp[hxn]
  simp only[this]
  split<;>omega
 generalize hK':(K.filter fun x=>decide (x≠v))=K' at*
 have hKs':K'.Pairwise (· < ·):=by rw[<- hK'];exact hKs.filter _
 have hKl':K'.length<=n:=by rw[<- hK'];exact Nat.le_trans (bC _ _) hKl
 have hWn:(outs R n v).Nodup:=oX _ _
 have hWl:(outs R n v).length<=n:=lM _ _
 have hWR:∀ x∈outs R n v,R v x=true:=fun x hx=>(gM.1 hx).2
 generalize outs R n v=W at*
 refine cD (f:=G.qa y23 (zn W)) W.length (fun t=>((t:Int),mk K' (dg R K (W.take t)),zn (K'.filter fun x=>decide (dg R K (W.take t) x=0)))) _ (fun t ht=>?_) ?_ ?_
 . unfold G.qa
   rw[if_pos (by rw[da];omega),zo ht]
   have htk:=aD ht
   have hnt:W[t] ∉ W.take t:=fun hm=>by
    obtain⟨i,hi,e⟩:=bw.1 hm
    rw[aM]at hi
    rw[List.getElem_take]at e
    have:=(List.nodup_iff_pairwise_ne.1 hWn)
    exact a7.1 this i t (by omega) ht (by omega) e
   have hsame:∀ x,x≠W[t]->dg R K (W.take (t+1)) x=dg R K (W.take t) x:=fun x hx=>by
    unfold dg
    have:x∈W.take (t+1)↔x∈W.take t:=by rw[htk,aL,List.mem_singleton];simp[hx]
    simp only[this]
   simp only[ae,Hk,dk ht (by omega)]
   have hfin:∀ (f:Nat->Int) (rd:List Int),mk K' f=mk K' (dg R K (W.take (t+1)))->rd=zn (K'.filter fun x=>decide (dg R K (W.take (t+1)) x=0))->(some (Sum.inl (((t+1:Nat):Int),mk K' f,rd)):Option ((Int×(List (Int×Int))×(List Int))⊕(((List (Int×Int))×(List Int)×(List Int))⊕((List (Int×Int))×(List Int)))))=some (Sum.inl (((t+1:Nat):Int),mk K' (dg R K (W.take (t+1))),zn (K'.filter fun x=>decide (dg R K (W.take (t+1)) x=0)))):=fun f rd e1 e2=>by rw[e1,e2]
   by_cases hw:W[t]∈K'
   . rw[if_pos hw,if_neg (by simp)]
     have hc:=Xk R K W[t]
     have hc1:1<=qf R K W[t]:=Nat.pos_of_ne_zero fun h0=>by
      have:=CU.1 h0 v hv
      rw[hWR _ (az ht)]at this;cases this
     have hd0:dg R K (W.take t) W[t]=(qf R K W[t]:Int):=by unfold dg;rw[if_neg hnt];omega
     have hd1:dg R K (W.take (t+1)) W[t]=(qf R K W[t]:Int)-1:=by unfold dg;rw[if_pos (by rw[htk,aL,List.mem_singleton];exact .inr rfl)]
     simp only[Option.getD_some]
     rw[Tf hw,Hk,if_pos hw,hd0,fB (by omega) (by omega)]
     have hmk:mk K' (UQ (dg R K (W.take t)) W[t] ((qf R K W[t]:Int)-1))=mk K' (dg R K (W.take (t+1))):=mk_congr fun x _=>by
      unfold UQ
      split
      . rename_i e;rw[e,hd1]
      . rename_i e;rw[hsame x e]
     have hup:UQ (dg R K (W.take t)) W[t] ((qf R K W[t]:Int)-1) W[t]=(qf R K W[t]:Int)-1:=if_pos rfl
     simp only[Option.getD_some,hup]
     by_cases hz:(qf R K W[t]:Int)-1=0
     . rw[if_pos hz]
       have hrs:(K'.filter fun x=>decide (dg R K (W.take t) x=0)).Pairwise (· < ·):=hKs'.filter _
       have hrl:(K'.filter fun x=>decide (dg R K (W.take t) x=0)).length<=1000:=Nat.le_trans (bC _ _) (by omega)
       obtain⟨b,hb⟩:=Zz hrs W[t] hrl
       rw[hb]
       simp only[ae]
       rw[P4 hrs (fun hm=>by
        have:=aG (aR.1 hm).2
        omega) hrl (T:=K'.filter fun x=>decide (dg R K (W.take (t+1)) x=0)) (hKs'.filter _) fun x=>by
         rw[aR,aR,au,au]
         by_cases e:x=W[t]
         . subst e;simp only[hw,hd1,hz,true_or,and_self]
         . rw[hsame x e];simp[e]]
       simp only[ae]
       exact hfin _ _ hmk rfl
     . rw[if_neg hz]
       refine hfin _ _ hmk (congrArg zn (bI fun x _=>?_))
       by_cases e:x=W[t]
       . subst e
         rw[decide_eq_false (by omega),decide_eq_false (by omega)]
       . rw[hsame x e]
   . rw[if_neg hw,if_pos (by simp)]
     have hne:∀ x∈K',x≠W[t]:=fun x hx e=>hw (by rw[<- e];exact hx)
     refine hfin _ _ (mk_congr fun x hx=>(hsame x (hne x hx)).symm) (congrArg zn (bI fun x hx=>?_))
     rw[hsame x (hne x hx)]
 . unfold G.qa
   rw[if_neg (by rw[da];omega),bD,mk_congr hlast]
   refine congrArg (fun x=>some (Sum.inr (Sum.inl (_,_,zn x)))) (bI fun x hx=>?_)
   rw[hlast x hx]
 . have:∀ x,dg R K (W.take 0) x=(qf R K x:Int):=fun x=>by unfold dg;simp
   show(((0:Int),_,_):Int×List (Int×Int)×List Int)=((0:Int),_,_)
   rw[mk_congr fun x (_:x∈K')=>this x,bI (p:=fun x=>decide (dg R K (W.take 0) x=0)) fun x _=>by rw[this x]]
theorem Pl(h:PG n R es out mX)(hn:n<50):∀ (m:Nat) (q:Nat->Bool) (K o:List Nat),K=(List.range n).filter q->K.length<=m->o.length+m<=1000->
 Iter (G.p8 (n:Int) es out mX) (mk K (fun x=>(qf R K x:Int)),zn o,zn (K.filter fun x=>decide ((qf R K x:Int)=0)))=some (mk (mJ R m K o).1 (fun x=>(qf R (mJ R m K o).1 x:Int)),zn (mJ R m K o).2)
 | m,q,K,o,hK,hm,ho=>by
   have hf:∀ (l:List Nat) (p:Nat->Bool),l.find? p=(l.filter p).head?:=fun l p=>by rw[List.head?_filter]
   have hpp:(fun x=>decide ((qf R K x:Int)=0))=fun x=>decide (qf R K x=0):=by
    funext x;rw[bg];omega
   cases hh:K.filter fun x=>decide ((qf R K x:Int)=0)with
   | nil=>
     have hk:mJ R m K o=(K,o):=by
      cases m with
      | zero=>rfl
      | succ m=>unfold mJ;rw[hf,<- hpp,hh];rfl
     rw[hk]
     refine j8 ?_
     unfold G.p8
     rw[if_neg (by simp[zn])]
   | cons v rest=>
     have hvm:v∈K:=(aR.1 (by rw[hh];exact ay .. :v∈K.filter fun x=>decide ((qf R K x:Int)=0))).1
     have hKn:K.Nodup:=by rw[hK];exact oX _ _
     have hvn:v<n:=by rw[hK]at hvm;exact(gM.1 hvm).1
     cases m with
     | zero=>rw[List.length_eq_zero_iff.1 (Nat.le_zero.1 hm)]at hvm;cases hvm
     | succ m=>
       have hk:mJ R (m+1) K o=mJ R m (K.filter fun x=>decide (x≠v)) (o++[v]):=by
        conv=>lhs;unfold mJ
        rw[hf,<- hpp,hh];rfl
       have hrest:rest=(K.filter fun x=>decide (x≠v)).filter fun x=>decide ((qf R K x:Int)=0):=by
        have h1:(v::rest).Nodup:=by rw[<- hh];exact List.Pairwise.filter _ hKn
        have h2:=(List.nodup_cons.1 h1).1
        have:(v::rest).filter (fun x=>decide (x≠v))=rest:=by
         rw[List.filter_cons,if_neg (by simp),List.filter_eq_self]
         intro x hx
         simp only[au]
         exact fun e=>h2 (by rw[<- e];exact hx)
        rw[<- this,<- hh,List.filter_filter,List.filter_filter]
        exact bI fun x _=>Bool.and_comm _ _
       have hstep:G.p8 (n:Int) es out mX (mk K (fun x=>(qf R K x:Int)),zn o,zn (v::rest))=some (.inl (mk (K.filter fun x=>decide (x≠v)) (fun x=>(qf R (K.filter fun x=>decide (x≠v)) x:Int)),zn (o++[v]),zn ((K.filter fun x=>decide (x≠v)).filter fun x=>decide ((qf R (K.filter fun x=>decide (x≠v)) x:Int)=0)))):=by
        unfold G.p8
        have hx:idx (zn (v::rest)) 0=some (v:Int):=rfl
        have hd:rM (zn (v::rest)) 1=some (zn rest):=by rw[HI (by simp[zn];omega)];rfl
        rw[if_pos (by simp[zn])]
        simp only[hx,hd,ae]
        rw[dT (by rw[da];simp;omega)]
        simp only[ae]
        rw[h.Out hn hvn]
        simp only[ae]
        rw[XO,hrest,T4 hn hK hvm,re];rfl
       rw[rh hstep,hk]
       exact Pl h hn m (fun x=>q x&&decide (x≠v)) _ _ (by
        conv=>lhs;rw[hK]
        rw[List.filter_filter]
        exact bI fun x _=>Bool.and_comm _ _) (by
        have:=(xY hKn hvm).length_eq
        simp only[bK]at this;omega) (by simp;omega)
def K0(n:Nat)(S:List Nat):List Nat:=(List.range n).filter fun x=>decide (x ∉ S)
theorem Jr(h:PG n R es out mX)(hn:n<50){S:List Nat}(hS:S.length<=1000):
 G.uu (zn S) (n:Int) es out mX=some (zn (mJ R n (K0 n S) []).2,mk (mJ R n (K0 n S) []).1 fun x=>(qf R (mJ R n (K0 n S) []).1 x:Int)):=by
 have hK:K0 n S=(List.range n).filter fun x=>decide (x ∉ S):=rfl
 unfold G.uu G.gg
 simp only[ae]
 rw[VJ hS hn,<- hK]
 simp only[ae]
 rw[VO,zI (P:=fun p:List Int=>p.Perm (zn (K0 n S))) (r:=mk (K0 n S) fun x=>(qf R (K0 n S) x:Int)) ⟨_,List.Perm.refl _⟩ fun p hp=>by
  have:=Sp h hn hK p [] hp
  simpa using this]
 simp only[ae]
 rw[TV hn hK]
 simp only[ae]
 have:=Pl h hn n _ (K0 n S) [] hK (lM _ _) (by simp;omega)
 rw[show zn []=[] from rfl]at this
 rw[this];rfl
end
end G
end
section
open G
namespace G
inductive TC(R:Nat->Nat->Bool):Nat->Nat->Prop where
 | one {i j:Nat} (h:R i j=true):TC R i j
 | cons {i k j:Nat} (h:R i k=true) (t:TC R k j):TC R i j
theorem TC.snoc{R:Nat->Nat->Bool}{i k j:Nat}(h:TC R i k)(hr:R k j=true):TC R i j:=by
 induction h with
 | one h=>exact .cons h (.one hr)
 | cons h _ ih=>exact .cons h (ih hr)
theorem TC.last{R:Nat->Nat->Bool}{i j:Nat}(h:TC R i j):R i j=true\/∃ k,TC R i k/\R k j=true:=by
 induction h with
 | one h=>exact .inl h
 | cons h t ih=>
   rcases ih with h2|⟨k,h2,h3⟩
   . exact .inr ⟨_, .one h,h2⟩
   . exact .inr ⟨k, .cons h h2,h3⟩
theorem TC.fst{R:Nat->Nat->Bool}{i j:Nat}(h:TC R i j):∃ k,R i k=true:=by cases h with|one h=>exact⟨_,h⟩|cons h _=>exact⟨_,h⟩
open Classical in
noncomputable def TR(R:Nat->Nat->Bool)(n v:Nat):List Nat:=(List.range n).filter fun t=>decide (TC R v t)
open Classical in
noncomputable def ub(R:Nat->Nat->Bool)(n:Nat)(S:List Nat):List Nat:=(List.range n).filter fun v=>decide (TC (wo R S) v v)
open Classical in
theorem KQ{R:Nat->Nat->Bool}{n v t:Nat}:t∈TR R n v↔t<n/\TC R v t:=by unfold TR;rw[gM,au]
open Classical in
theorem C6{R:Nat->Nat->Bool}{n:Nat}{S:List Nat}{v:Nat}:v∈ub R n S↔v<n/\TC (wo R S) v v:=by unfold ub;rw[gM,au]
theorem Aj:∀ (n:Nat) (T:List Nat),T.Nodup->(∀ t∈T,t<n)->T.length<=n
 | 0,T,_,h=>by
   cases T with
   | nil=>exact Nat.le_refl _
   | cons x T=>exact absurd (h x (ay ..)) (Nat.not_lt_zero _)
 | n+1,T,hn,h=>by
   by_cases hm:n∈T
   . rw[(xY hn hm).length_eq,bK]
     refine Nat.succ_le_succ (Aj n _ (List.Pairwise.filter _ hn) fun t ht=>?_)
     obtain⟨h1,h2⟩:=aR.1 ht
     have:=h t h1
     have h2:=aG h2
     omega
   . exact Nat.le_succ_of_le (Aj n T hn fun t ht=>by
      have:=h t ht
      have:t≠n:=fun e=>hm (by rw[<- e];exact ht)
      omega)
theorem WM{x:List Int}{w:List Nat}(h:x.Perm (zn w)):∃ a:List Nat,x=zn a/\a.Perm w:=by
 refine⟨x.map Int.toNat,?_,?_⟩
 . unfold zn
   rw[List.map_map]
   conv=>lhs;rw[<- List.map_id x]
   refine List.map_congr_left fun y hy=>?_
   obtain⟨k,_,rfl⟩:=DV.1 (h.mem_iff.1 hy)
   simp
 . have:=h.map Int.toNat
   unfold zn at this
   rw[List.map_map]at this
   have e:w.map (Int.toNat ∘ fun k:Nat=>(k:Int))=w:=by
    conv=>rhs;rw[<- List.map_id w]
    exact List.map_congr_left fun _ _=>by simp
   rw[e]at this;exact this
def Pn(T:List Nat):List (Int×Bool):=T.map fun k:Nat=>((k:Int),true)
theorem Po(T:List Nat)(k:Nat):((Pn T).any fun p=>cR (k:Int) p.1)=decide (k∈T):=by
 rw[Bool.eq_iff_iff,br,au]
 unfold Pn
 constructor
 . rintro⟨p,hp,he⟩
   obtain⟨j,hj,rfl⟩:=List.mem_map.1 hp
   have:=(gi _ _).1 he
   obtain rfl:k=j:=by simp only at this;omega
   exact hj
 . exact fun h=>⟨_,List.mem_map.2 ⟨k,h,rfl⟩,gi.refl _⟩
theorem VP(T:List Nat)(k:Nat):(dG cR (Pn T) (k:Int)).getD false=decide (k∈T):=by
 cases h:dG cR (Pn T) (k:Int)with
 | none=>
   rw[xU,Po]at h
   rw[h];rfl
 | some b=>
   have hm:=Jh gi h
   obtain⟨j,hj,e⟩:=List.mem_map.1 hm
   simp only[aB]at e
   obtain rfl:j=k:=by omega
   rw[<- e.2,aF hj];rfl
theorem VQ{T:List Nat}{k:Nat}(h:k ∉ T):kZ cR (Pn T) (k:Int) true=Pn (T++[k]):=by
 unfold kZ
 rw[Po,if_neg (by simp[h])]
 unfold Pn
 rw[bc];rfl
theorem P1(l:List Int)(h:l.length<=1000000):G.lP l=some l:=by
 unfold G.lP
 rw[dT (by simp;omega)]
 cases l with
 | nil=>exact B4 _
 | cons x l=>rfl
theorem I4{γ:Type}(kk:((List (Int×Bool))×(List Int))->Option γ)(a1:List (Int×Bool)):∀ (p acc:List Int),acc.length+p.length<=1000->
 n5 G.cg (G.cS kk) p (a1,acc)=kk (a1,acc++p)
 | [],acc,_=>by
   unfold n5 G.cS
   rw[aN];simp
 | x::p,acc,h=>by
   rw[bK]at h
   have hs:G.cg (γ:=γ) x (a1,acc)=some (.inl (a1,acc++[x])):=by
    unfold G.cg G.fy
    simp only
    rw[dT (by simp;omega)];rfl
   unfold n5
   rw[hs]
   simp only[ae]
   rw[I4 kk a1 p _ (by simp;omega),aA];rfl
theorem H7{T:List Nat}(hT:T.Nodup){w:List Nat}(hw:T.Perm w)(hs:w.Pairwise (· < ·))(hn:w.length<50):∃ z,G.cL (Pn T)=some (z,zn w):=by
 refine⟨Pn T,?_⟩
 have hl:=hw.length_eq
 unfold G.cL G.dD G.cM G.c9
 have hk:(Pn T).map (fun e=>e.1)=zn T:=by unfold Pn zn;rw[List.map_map];rfl
 rw[hk]
 refine zI ⟨_,List.Perm.refl _⟩ fun p hp=>?_
 have hpl:=hp.length_eq
 rw[da]at hpl
 rw[I4 _ _ p [] (by simp;omega)]
 simp only[aY,Option.map_id']
 obtain⟨r,e,h1,h2⟩:=QO.tZ p (by omega)
 rw[e]
 simp only[ae]
 rw[JC (h1.trans (hp.trans (hw.map _))) h2 (EX hs)]
 rfl
section
variable {n:Nat}{R:Nat->Nat->Bool}{es:List (G.bN×Bool)}{out mX:List (Int×List Int)}
theorem R6(h:PG n R es out mX)(hn:n<50)(hb:∀ i j,R i j=true->i<n/\j<n){v:Nat}(hv:v<n)(N:Int)(e2:List (G.bN×Bool))(i2:List (Int×List Int)):G.m9 (v:Int) N e2 out i2=some (zn (TR R n v)):=by
 have hraw:∀ {w:Nat},w<n->∃ a:List Nat,(dG cR out (w:Int)).getD []=zn a/\a.length<=n/\∀ x,x∈a↔R w x=true:=fun{w} hw=>by
  obtain⟨a,h1,h2⟩:=WM (h.ZY hw)
  refine⟨a,h1,by rw[h2.length_eq];exact lM _ _,fun x=>?_⟩
  rw[h2.mem_iff]
  unfold outs
  rw[gM]
  exact⟨fun h=>h.2,fun h=>⟨(hb _ _ h).2,h⟩⟩
 obtain⟨a,ha,hal,ham⟩:=hraw hv
 have hnn:n*(n+1)<=49*50:=Nat.mul_le_mul (by omega) (by omega)
 have key:∃ r,Iter (G.oe out) (([]:List (Int×Bool)),zn a)=some r/\∃ T:List Nat,r=Pn T/\T.Nodup/\∀ t,t∈T↔TC R v t:=by
  refine cu (fun m s=>∃ T Sk:List Nat,s=(Pn T,zn Sk)/\T.Nodup/\(∀ t∈T,t<n/\TC R v t)/\(∀ t∈Sk,t<n/\TC R v t)/\(∀ w,R v w=true->w∈T\/w∈Sk)/\(∀ t∈T,∀ w,R t w=true->w∈T\/w∈Sk)/\m=(n-T.length)*(n+1)+Sk.length/\m<=3000)
   (fun r=>∃ T:List Nat,r=Pn T/\T.Nodup/\∀ t,t∈T↔TC R v t) (fun m s hI=>?_) ((n-0)*(n+1)+a.length) _ ⟨[],a,rfl,List.nodup_nil,by simp,fun t ht=>?_,fun w hw=> .inr ((ham w).2 hw),by simp,rfl,by simp;omega⟩
  . obtain⟨T,Sk,rfl,i1,i2,i3,i4,i5,rfl,i6⟩:=hI
    unfold G.oe
    rcases List.eq_nil_or_concat Sk with rfl|⟨Sk1,w,e⟩
    . rw[if_neg (by simp[zn])]
      refine .inr ⟨_,rfl,T,rfl,i1,fun t=>⟨fun ht=>(i2 t ht).2,fun ht=>?_⟩⟩
      have clo:∀ i t,TC R i t->(∀ w,R i w=true->w∈T)->t∈T:=fun i t h=>by
       induction h with
       | one h=>exact fun hc=>hc _ h
       | cons h _ ih=>exact fun hc=>ih fun w hw=>by simpa using i5 _ (hc _ h) w hw
      exact clo v t ht fun w hw=>by simpa using i4 w hw
    . rw[List.concat_eq_append]at e
      subst e
      generalize Sk1=Sk at*
      have hl:(zn (Sk++[w])).length=Sk.length+1:=by rw[da];simp
      rw[aq,bm]at i6 ⊢
      rw[if_pos (by simp only[hl];omega)]
      simp only[hl]
      rw[fB (by omega) (by omega),tL 0 (k:=Sk.length) (by omega) (by rw[hl];omega)]
      have hg:(zn (Sk++[w])).getD Sk.length 0=(w:Int):=by rw[re];simp[zn]
      rw[hg,yb (by rw[hl];omega)]
      have ht:(zn (Sk++[w])).take (((Sk.length+1:Nat):Int)-1).toNat=zn Sk:=by
       rw[show(((Sk.length+1:Nat):Int)-1).toNat=Sk.length by omega,PX];simp
      rw[ht]
      simp only[ae,VP]
      have hw:=i3 w (by simp)
      by_cases hm:w∈T
      . rw[if_pos (aF hm)]
        refine .inl ⟨_,_,rfl,?_,T,Sk,rfl,i1,i2,fun t ht=>i3 t (by simp[ht]),fun x hx=>?_,fun t ht x hx=>?_,rfl,by omega⟩
        . omega
        . rcases i4 x hx with e|e
          . exact .inl e
          . rcases aL.1 e with e|e
            . exact .inr e
            . rw[List.mem_singleton.1 e];exact .inl hm
        . rcases i5 t ht x hx with e|e
          . exact .inl e
          . rcases aL.1 e with e|e
            . exact .inr e
            . rw[List.mem_singleton.1 e];exact .inl hm
      . rw[if_neg (by simp[hm])]
        obtain⟨b,hb1,hb2,hb3⟩:=hraw hw.1
        rw[hb1,dT (by rw[da,da];omega),<- re]
        simp only[ae]
        rw[VQ hm]
        have hnd:(T++[w]).Nodup:=by rw[List.nodup_append];exact⟨i1,by simp,fun x hx y hy=>by simp at hy;subst hy;exact fun e=>hm (by rw[<- e];exact hx)⟩
        have hlT:(T++[w]).length<=n:=Aj n _ hnd fun t ht=>by
         rcases aL.1 ht with h|h
         . exact(i2 t h).1
         . rw[List.mem_singleton.1 h];exact hw.1
        rw[aq,bm]at hlT
        have hmul:(n-T.length)*(n+1)=(n-(T.length+1))*(n+1)+(n+1):=by
         rw[show n-T.length=(n-(T.length+1))+1 by omega,aZ,Nat.one_mul]
        refine .inl ⟨_,_,rfl,?_,T++[w],Sk++b,rfl,hnd,fun t ht=>?_,fun t ht=>?_,fun x hx=>?_,fun t ht x hx=>?_,rfl,?_⟩
        . rw[aq,aq,bm,hmul];omega
        . rcases aL.1 ht with h|h
          . exact i2 t h
          . rw[List.mem_singleton.1 h];exact hw
        . rcases aL.1 ht with h|h
          . exact i3 t (by simp[h])
          . have:=(hb3 t).1 h
            exact⟨(hb _ _ this).2,hw.2.snoc this⟩
        . rcases i4 x hx with e|e
          . exact .inl (by simp[e])
          . rcases aL.1 e with e|e
            . exact .inr (by simp[e])
            . exact .inl (by simp[List.mem_singleton.1 e])
        . rcases aL.1 ht with h|h
          . rcases i5 t h x hx with e|e
            . exact .inl (by simp[e])
            . rcases aL.1 e with e|e
              . exact .inr (by simp[e])
              . exact .inl (by simp[List.mem_singleton.1 e])
          . rw[List.mem_singleton.1 h]at hx
            exact .inr (by simp[(hb3 x).2 hx])
        . rw[aq,aq,bm];omega
  . exact⟨(hb _ _ ((ham t).1 ht)).2, .one ((ham t).1 ht)⟩
 obtain⟨r,hr,T,rfl,h1,h2⟩:=key
 unfold G.m9
 rw[ha,P1 _ (by rw[da];omega)]
 simp only[ae]
 rw[hr]
 unfold G.iY
 simp only[ae]
 obtain⟨z,hz⟩:=H7 h1 (w:=TR R n v) ((List.perm_ext_iff_of_nodup h1 (oX _ _)).2 fun x=>by
  rw[h2]
  refine Iff.trans ?_ KQ.symm
  refine⟨fun h=>⟨?_,h⟩,fun h=>h.2⟩
  rcases h.last with h|⟨k,_,h⟩
  . exact(hb _ _ h).2
  . exact(hb _ _ h).2) (Bi _ _) (Nat.lt_of_le_of_lt (lM _ _) hn)
 rw[hz];rfl
theorem G7{C:Nat->Prop}(hC:∀ x,C x->∃ u,C u/\R u x=true):∀ (m:Nat) (K o:List Nat),(∀ x,C x->x∈K)->∀ x,C x->x∈(mJ R m K o).1
 | 0,K,o,h=>h
 | m+1,K,o,h=>by
   unfold mJ
   split
   . exact h
   . rename_i v hv
     refine G7 hC m _ _ fun x hx=>aR.2 ⟨h x hx,aF fun e=>?_⟩
     subst e
     have h0:=List.find?_some hv
     have h0:=aG h0
     obtain⟨u,hu,hr⟩:=hC _ hx
     rw[CU.1 h0 u (h u hu)]at hr;cases hr
theorem DS{S:List Nat}{i j:Nat}(h:wo R S i j=true):R i j=true/\i ∉ S/\j ∉ S:=by
 unfold wo at h
 simpa using h
theorem IL(hb:∀ i j,R i j=true->i<n/\j<n){S:List Nat}{v:Nat}(h:TC (wo R S) v v)(m:Nat):v∈(mJ R m (K0 n S) []).1:=by
 refine G7 (C:=fun x=>TC (wo R S) v x/\TC (wo R S) x v) (fun x hx=>?_) m _ _ (fun x hx=>?_) v ⟨h,h⟩
 . rcases hx.1.last with h1|⟨k,h1,h2⟩
   . exact⟨v,⟨h,h⟩,(DS h1).1⟩
   . exact⟨k,⟨h1, .cons h2 hx.2⟩,(DS h2).1⟩
 . obtain⟨k,hk⟩:=hx.2.fst
   have:=DS hk
   unfold K0
   exact gM.2 ⟨(hb _ _ this.1).1,aF this.2.1⟩
theorem P3(h:PG n R es out mX)(hn:n<50)(hb:∀ i j,R i j=true->i<n/\j<n)(hR:∀ i j,R i j=true->i≠j){S:List Nat}(hS:S.length<=1000):
 G.xf (zn S) (n:Int) es out mX=some (es,zn (ub R n S)):=by
 unfold G.xf
 rw[Jr h hn hS]
 simp only[ae]
 refine h.CE (by omega) hS hR _ fun es2 out2 inn2 hG=>?_
 unfold G.gg
 simp only[ae]
 have hb2:∀ i j,wo R S i j=true->i<n/\j<n:=fun i j hij=>hb _ _ (DS hij).1
 refine r8 n (fun v=>@decide (TC (wo R S) v v) (Classical.propDecidable _)) (fun k acc=>((k:Int),zn acc)) _ (fun k hk=>?_) ?_ rfl
 . unfold G.wB
   have hl:=lM k fun v=>@decide (TC (wo R S) v v) (Classical.propDecidable _)
   rw[if_pos (by simp only;omega)]
   simp only[Hk,dk hk (by omega)]
   rw[R6 hG hn hb2 hk]
   simp only[ae]
   rw[qg _ _ (by rw[da];have:=lM n fun t=>@decide (TC (wo R S) k t) (Classical.propDecidable _);unfold TR;omega)]
   simp only[ae,qc]
   have hm:k∈TR (wo R S) n k↔TC (wo R S) k k:=by rw[KQ];exact⟨fun h=>h.2,fun h=>⟨hk,h⟩⟩
   by_cases hc:TC (wo R S) k k
   . rw[if_pos (IL hb hc n)]
     simp only[Option.isSome_some,if_true,ae]
     rw[aF (hm.2 hc),if_pos rfl,dT (by rw[da];simp;omega),if_pos (@decide_eq_true _ (Classical.propDecidable _) hc),re];rfl
   . rw[decide_eq_false fun h=>hc (hm.1 h),if_neg fun e=>hc (@of_decide_eq_true _ (Classical.propDecidable _) e),aN]
     split
     . simp
     . simp
 . unfold G.wB
   rw[if_neg (by simp)];rfl
end
end G
end
section
open IntKind(i64)
open G
namespace G
theorem Gu{α:Type}{f:Int->Option (Int⊕Bool)}(l:List α)(p:α->Prop)[DecidablePred p](b:Bool)(hn:l.length<=1000000)
 (hf:∀ s,f s=if s<(l.length:Int)then(idx l s).bind fun x=>if p x then some (.inr b)else some (.inl (i64.wrap (s+1)))else some (.inr (!b))):Iter f 0=some (if l.any (fun x=>decide (p x))=true then b else !b):=by
 have hK:=iE (f:=f) l (fun x=>decide (p x)) (fun k=>(k:Int)) (fun _=>b) (!b)
  (fun k h hb=>by rw[hf,if_pos (by omega),cH h];simp only[ae];rw[if_neg (of_decide_eq_false hb),dk h (by omega)])
  (fun k h hb=>by rw[hf,if_pos (by omega),cH h];simp only[ae];rw[if_pos (aG hb)])
  (by rw[hf,if_neg (by omega)]) (s:=0) rfl
 rcases hK with⟨ha,he⟩|⟨k,h,hb,_,he⟩
 . rw[he,if_neg]
   rw[Bool.not_eq_true,List.any_eq_false]
   exact fun x hx=>by rw[ha x hx];simp
 . rw[he,if_pos]
   exact br.2 ⟨_,az h,hb⟩
theorem Kl{f:Int->Option (Int⊕Bool)}{x:Int}(l:List Int)(hn:l.length<=1000000)(hf:∀ s,f s=if s<(l.length:Int)then(idx l s).bind fun y=>if y=x then some (.inr true)else some (.inl (i64.wrap (s+1)))else some (.inr false)):Iter f 0=some (decide (x∈l)):=by
 rw[Gu l (fun y=>y=x) true hn hf]
 congr 1
 by_cases h:x∈l
 . rw[if_pos (br.2 ⟨x,h,aF rfl⟩),aF h]
 . rw[if_neg (fun e=>by obtain⟨y,hy,e⟩:=br.1 e;exact h (by rw[<- aG e];exact hy)),decide_eq_false h];rfl
theorem Vz(l:List Int)(x:Int)(hn:l.length<=1000000):G.xu x l=some (decide (x∈l)):=Kl l hn fun _=>rfl
theorem FT(l:List Int)(x:Int)(hn:l.length<=1000000):G.rq x l=some (decide (x∈l)):=Kl l hn fun _=>rfl
theorem VA(l:List Int)(x:Int)(hn:l.length<=1000000):G.BQ x l=some (decide (x∈l)):=Kl l hn fun _=>rfl
structure RG(n:Nat)(R:Nat->Nat->Bool)(E:List G.bP):Prop where
 len:E.length<=2000
 mem:∀ e,e∈E↔∃ i j:Nat,i<n/\j<n/\R i j=true/\e=⟨(i:Int),(j:Int)⟩
section
variable {n:Nat}{R:Nat->Nat->Bool}{E:List G.bP}
def kp(S:List Nat)(e:G.bP):Bool:=decide (e.from_ ∉ zn S)&&decide (e.to ∉ zn S)
theorem RG.CE(h:RG n R E){S:List Nat}(hS:S.length<=1000):G.og (zn S) (n:Int) E=some ((n:Int),E.filter (kp S))/\RG n (wo R S) (E.filter (kp S)):=by
 have hl:=h.len
 refine⟨?_,Nat.le_trans (bC _ _) hl,fun e=>?_⟩
 . unfold G.og
   refine cD (f:=G.mu (zn S) E) E.length (fun k=>((k:Int),(n:Int),(E.take k).filter (kp S))) _ (fun k hk=>?_) ?_ (by simp)
   . unfold G.mu
     have hfl:((E.take k).filter (kp S)).length<=k:=Nat.le_trans (bC _ _) (by rw[aM];omega)
     rw[if_pos (by simp only;omega)]
     simp only[cH hk,ae,Vz (zn S) _ (by rw[da];omega),dk hk (by omega)]
     rw[aD hk,List.filter_append]
     by_cases h1:E[k].from_∈zn S
     . simp[h1,kp]
     . by_cases h2:E[k].to∈zn S
       . simp[h1,h2,kp]
       . simp only[h1,h2,decide_false,if_true,ae,Bool.not_false]
         rw[dT (by simp;omega)]
         simp[h1,h2,kp]
   . unfold G.mu
     rw[if_neg (by simp),bD]
 . rw[aR,h.mem]
   unfold kp wo
   constructor
   . rintro⟨⟨i,j,hi,hj,hr,rfl⟩,h2⟩
     simp only[qc]at h2
     exact⟨i,j,hi,hj,by rw[hr,Bool.true_and];exact h2,rfl⟩
   . rintro⟨i,j,hi,hj,hr,rfl⟩
     rw[al]at hr
     refine⟨⟨i,j,hi,hj,hr.1,rfl⟩,?_⟩
     simp only[qc];exact hr.2
def bl(n:Nat)(T:List Nat):List Bool:=(List.range n).map fun t=>decide (t∈T)
theorem Nm(n:Nat)(T:List Nat):(bl n T).length=n:=by unfold bl;simp
theorem Nl{T:List Nat}{t:Nat}(h:t<n):idx (bl n T) (t:Int)=some (decide (t∈T)):=by
 rw[cH (by rw[Nm];exact h)];simp[bl]
theorem Xg{T:List Nat}{t:Nat}:(bl n T).set t true=bl n (T++[t]):=by
 apply List.ext_getElem (by rw[bJ,Nm,Nm])
 intro i h1 h2
 rw[List.getElem_set]
 unfold bl
 by_cases e:t=i
 . subst e;simp
 . have:i≠t:=fun h=>e h.symm
   simp[e,this]
theorem Wc(h:RG n R E){v:Nat}{T0:List Nat}(h0:T0.Nodup)(h1:∀ t∈T0,t<n/\TC R v t):
 ∃ r,Iter (G.qV (v:Int) E) (false,(0:Int),bl n T0)=some r/\∃ (g:Bool) (T:List Nat),r= .inl (g,bl n T)/\T.Nodup/\(∀ t∈T,t<n/\TC R v t)/\(g=true->T0.length<T.length)/\(g=false->T=T0/\∀ i j,i<n->j<n->R i j=true->(i=v\/i∈T0)->j∈T0):=by
 have hl:=h.len
 refine cu (fun m s=>∃ (k:Nat) (g:Bool) (T:List Nat),s=(g,(k:Int),bl n T)/\k<=E.length/\m=E.length-k/\T.Nodup/\(∀ t∈T,t<n/\TC R v t)/\(g=true->T0.length<T.length)/\(g=false->T=T0/\∀ i j:Nat,(⟨(i:Int),(j:Int)⟩:G.bP)∈E.take k->(i=v\/i∈T0)->j∈T0))
  _ (fun m s hI=>?_) E.length _ ⟨0,false,T0,rfl,Nat.zero_le _,rfl,h0,h1,fun e=>by simp at e,fun _=>⟨rfl,fun i j hm=>by simp at hm⟩⟩
 obtain⟨k,g,T,rfl,i1,rfl,i2,i3,i4,i5⟩:=hI
 unfold G.qV
 by_cases hk:k<E.length
 . rw[if_pos (by simp only;omega)]
   obtain⟨i,j,hi,hj,hr,he⟩:=(h.mem _).1 (az hk)
   have hvi:((i:Int)=(v:Int))↔i=v:=by omega
   simp only[cH hk,he,ae,Nl hi,Nl hj,dk hk (by omega),aK,Xg,hvi]
   have hcond:(if i=v then some (!decide (j∈T))else if decide (i∈T)=true then some (!decide (j∈T))else some false)=some (decide ((i=v\/i∈T)/\j ∉ T)):=by
    by_cases a:i=v
    . simp[a]
    . by_cases b:i∈T<;>simp[a,b]
   rw[hcond]
   simp only[ae]
   have htk:=aD hk
   by_cases hc:(i=v\/i∈T)/\j ∉ T
   . rw[if_pos (aF hc)]
     refine .inl ⟨_,_,rfl,by omega,k+1,true,T++[j],rfl,hk,rfl,?_,fun t ht=>?_,fun _=>?_,fun e=>by cases e⟩
     . rw[List.nodup_append];exact⟨i2,by simp,fun x hx y hy=>by simp at hy;subst hy;exact fun e=>hc.2 (by rw[<- e];exact hx)⟩
     . rcases aL.1 ht with ht|ht
       . exact i3 t ht
       . rw[List.mem_singleton.1 ht]
         refine⟨hj,?_⟩
         rcases hc.1 with rfl|hc
         . exact .one hr
         . exact(i3 i hc).2.snoc hr
     . rw[aq,bm]
       cases g with
       | true=>have:=i4 rfl;omega
       | false=>rw[(i5 rfl).1];omega
   . rw[if_neg (by simpa using hc)]
     refine .inl ⟨_,_,rfl,by omega,k+1,g,T,rfl,hk,rfl,i2,i3,i4,fun e=>?_⟩
     obtain⟨rfl,i6⟩:=i5 e
     refine⟨rfl,fun a b hm hab=>?_⟩
     rw[htk,aL,List.mem_singleton,he]at hm
     rcases hm with hm|hm
     . exact i6 a b hm hab
     . simp only[G.bP.mk.injEq]at hm
       obtain rfl:a=i:=by omega
       obtain rfl:b=j:=by omega
       exact aQ fun hn=>hc ⟨hab,hn⟩
 . rw[if_neg (by simp only;omega)]
   refine .inr ⟨_,rfl,g,T,rfl,i2,i3,i4,fun e=>⟨(i5 e).1,fun i j hi hj hr hor=>(i5 e).2 i j ?_ hor⟩⟩
   rw[bH (by omega)]
   exact(h.mem _).2 ⟨i,j,hi,hj,hr,rfl⟩
theorem MF(h:RG n R E)(hb:∀ i j,R i j=true->i<n/\j<n)(hn:n<50)(v:Nat):G.tI (v:Int) (n:Int) E=some (zn (TR R n v)):=by
 have key:∃ r,Iter (G.qU (v:Int) E) (true,bl n [])=some r/\∃ T:List Nat,r=bl n T/\∀ t,t∈T↔TC R v t:=by
  refine cu (fun m s=>∃ (g:Bool) (T:List Nat),s=(g,bl n T)/\T.Nodup/\(∀ t∈T,t<n/\TC R v t)/\m=2*(n-T.length)+(if g=true then 1 else 0)/\(g=false->∀ i j,i<n->j<n->R i j=true->(i=v\/i∈T)->j∈T)) _ (fun m s hI=>?_) _ _ ⟨true,[],rfl,List.nodup_nil,by simp,rfl,fun e=>by cases e⟩
  obtain⟨g,T,rfl,i1,i2,rfl,i3⟩:=hI
  unfold G.qU
  cases g with
  | true=>
    rw[if_pos rfl]
    obtain⟨r,hr,g',T',rfl,j1,j2,j3,j4⟩:=Wc h i1 i2
    refine .inl ⟨_,_,hr,?_,g',T',rfl,j1,j2,rfl,fun e=>?_⟩
    . have:=Aj n T' j1 fun t ht=>(j2 t ht).1
      cases g' with
      | true=>have:=j3 rfl;simp;omega
      | false=>rw[(j4 rfl).1];simp
    . rw[(j4 e).1];exact(j4 e).2
  | false=>
    rw[if_neg (by simp)]
    refine .inr ⟨_,rfl,T,rfl,fun t=>⟨fun ht=>(i2 t ht).2,fun ht=>?_⟩⟩
    have clo:∀ i t,TC R i t->(i=v\/i∈T)->t∈T:=fun i t h=>by
     induction h with
     | one h=>exact fun hor=>i3 rfl _ _ (hb _ _ h).1 (hb _ _ h).2 h hor
     | cons h _ ih=>exact fun hor=>ih (.inr (i3 rfl _ _ (hb _ _ h).1 (hb _ _ h).2 h hor))
    exact clo v t ht (.inl rfl)
 obtain⟨r,hr,T,rfl,hT⟩:=key
 unfold G.tI
 rw[zT (by omega)]
 simp only[ae]
 have e0:List.replicate (n:Int).toNat false=bl n []:=by
  apply List.ext_getElem (by simp[bl])
  intro i h1 h2
  simp[bl]
 rw[e0,hr]
 simp only[ae]
 have ef:TR R n v=(List.range n).filter fun t=>decide (t∈T):=by
  unfold TR
  refine bI fun t _=>?_
  rw[bg,hT]
 rw[ef]
 refine r8 (f:=G.nf (n:Int) (bl n T)) n (fun t=>decide (t∈T)) (fun k acc=>(zn acc,(k:Int))) _ (fun k hk=>?_) ?_ rfl
 . unfold G.nf
   have:=lM k fun t=>decide (t∈T)
   rw[if_pos (by simp only;omega)]
   simp only[Nl hk,ae,dk hk (by omega)]
   by_cases hm:k∈T
   . rw[if_pos (aF hm),dT (by rw[da];simp;omega),if_pos (aF hm),re];rfl
   . rw[if_neg (by simp[hm]),if_neg (by simp[hm]),aN]
 . unfold G.nf
   rw[if_neg (by simp)]
theorem yX(h:RG n R E)(hn:n<50)(hb:∀ i j,R i j=true->i<n/\j<n){S:List Nat}(hS:S.length<=1000):G.pq (zn S) (n:Int) E=some (zn (ub R n S)):=by
 obtain⟨h1,h2⟩:=h.CE hS
 unfold G.pq
 rw[h1]
 simp only[ae]
 have hb2:∀ i j,wo R S i j=true->i<n/\j<n:=fun i j hij=>hb _ _ (DS hij).1
 refine r8 (f:=G.mH ((n:Int),E.filter (kp S))) n (fun v=>@decide (TC (wo R S) v v) (Classical.propDecidable _)) (fun k acc=>(zn acc,(k:Int))) _ (fun k hk=>?_) ?_ rfl
 . unfold G.mH
   have hl:=lM k fun v=>@decide (TC (wo R S) v v) (Classical.propDecidable _)
   have hl2:=lM n fun t=>@decide (TC (wo R S) k t) (Classical.propDecidable _)
   rw[if_pos (by simp only;omega)]
   simp only[MF h2 hb2 hn k,ae,dk hk (by omega)]
   rw[FT _ _ (by rw[da];unfold TR;omega)]
   simp only[ae,qc]
   have hm:k∈TR (wo R S) n k↔TC (wo R S) k k:=by rw[KQ];exact⟨fun h=>h.2,fun h=>⟨hk,h⟩⟩
   by_cases hc:TC (wo R S) k k
   . rw[aF (hm.2 hc),if_pos rfl,dT (by rw[da];simp;omega),if_pos (@decide_eq_true _ (Classical.propDecidable _) hc),re];rfl
   . rw[decide_eq_false fun h=>hc (hm.1 h),if_neg (by simp),if_neg fun e=>hc (@of_decide_eq_true _ (Classical.propDecidable _) e),aN]
 . unfold G.mH
   rw[if_neg (by simp)];rfl
theorem Q8(h:RG n R E)(hb:∀ i j,R i j=true->i<n/\j<n)(i j:Nat)(N:Int):G.vO ⟨(i:Int),(j:Int)⟩ N E=some (R i j):=by
 have hl:=h.len
 unfold G.vO
 rw[Gu (f:=G.wU ⟨(i:Int),(j:Int)⟩ E) E (fun e=>e.from_=(i:Int)/\e.to=(j:Int)) true (by omega) fun s=>rfl]
 congr 1
 have:(E.any fun e=>decide (e.from_=(i:Int)/\e.to=(j:Int)))=R i j:=by
  rw[Bool.eq_iff_iff,br]
  constructor
  . rintro⟨e,he,hd⟩
    obtain⟨a,b,_,_,hr,rfl⟩:=(h.mem e).1 he
    have hd:=aG hd
    obtain rfl:a=i:=by have:=hd.1;simp only at this;omega
    obtain rfl:b=j:=by have:=hd.2;simp only at this;omega
    exact hr
  . exact fun hr=>⟨⟨(i:Int),(j:Int)⟩,(h.mem _).2 ⟨i,j,(hb _ _ hr).1,(hb _ _ hr).2,hr,rfl⟩,aF ⟨rfl,rfl⟩⟩
 rw[this]
 cases R i j<;>rfl
theorem TW(h:RG n R E)(hb:∀ i j,R i j=true->i<n/\j<n)(hn:n<50)(v:Nat):G.xt (v:Int) (n:Int) E=some (zn (ins R n v)):=by
 unfold G.xt ins
 refine r8 (f:=G.qx (v:Int) (n:Int) E) n (fun u=>R u v) (fun k acc=>(zn acc,(k:Int))) _ (fun k hk=>?_) ?_ rfl
 . unfold G.qx
   have:=lM k fun u=>R u v
   rw[if_pos (by simp only;omega)]
   simp only[Q8 h hb,ae,dk hk (by omega)]
   cases hr:R k v with
   | true=>rw[if_pos rfl,dT (by rw[da];simp;omega),if_pos rfl,re];rfl
   | false=>rw[if_neg (by simp),if_neg (by simp),aN]
 . unfold G.qx
   rw[if_neg (by simp)]
theorem Vv(h:RG n R E)(hb:∀ i j,R i j=true->i<n/\j<n)(hn:n<50)(v:Nat){o:List Nat}(ho:o.length<=1000):∃ b,G.uF (v:Int) (zn o) (n:Int) E=some b/\(b=true↔∀ u,R u v=true->u∈o):=by
 have hl:(ins R n v).length<=n:=lM n fun u=>R u v
 unfold G.uF
 rw[TW h hb hn]
 simp only[ae]
 rw[Gu (f:=G.rT (zn o) (zn (ins R n v))) (zn (ins R n v)) (fun x=>x ∉ zn o) false (by rw[da];omega) fun s=>by
  unfold G.rT
  split
  . congr 1
    funext x
    rw[FT _ _ (by rw[da];omega)]
    simp only[ae]
    by_cases hx:x∈zn o<;>simp[hx]
  . rfl]
 refine⟨_,rfl,?_⟩
 by_cases hc:∀ u,R u v=true->u∈o
 . rw[if_neg]
   . exact⟨fun _=>hc,fun _=>rfl⟩
   . rw[Bool.not_eq_true,List.any_eq_false]
     intro x hx
     obtain⟨u,hu,rfl⟩:=DV.1 hx
     simp only[qc,au,Classical.not_not]
     exact hc u (gM.1 hu).2
 . rw[if_pos]
   . exact⟨fun h=>(by cases h),fun h=>absurd h hc⟩
   . rw[br]
     obtain⟨u,hu⟩:=Classical.not_forall.1 hc
     rw[Classical.not_imp]at hu
     exact⟨(u:Int),qc.2 (gM.2 ⟨(hb _ _ hu.1).1,hu.1⟩),by simp only[qc];exact aF hu.2⟩
def left(n:Nat)(S o:List Nat):List Nat:=(List.range n).filter fun x=>decide (x ∉ S)&&decide (x ∉ o)
def nxt:Option Nat->Int
 | none=> -1
 | some v=>(v:Int)
theorem Wd(h:RG n R E)(hb:∀ i j,R i j=true->i<n/\j<n)(hn:n<50){S o:List Nat}(hS:S.length<=1000)(ho:o.length<=1000):
 Iter (G.lu (zn S) ((n:Int),E.filter (kp S)) (zn o)) ((-1:Int),false,(n:Int)-1)=some (nxt ((left n S o).find? fun x=>decide (qf R (left n S o) x=0)),!(left n S o).isEmpty):=by
 obtain⟨_,h2⟩:=h.CE hS
 have hb2:∀ i j,wo R S i j=true->i<n/\j<n:=fun i j hij=>hb _ _ (DS hij).1
 have hfree:∀ v,v∈left n S o->((∀ u,wo R S u v=true->u∈o)↔qf R (left n S o) v=0):=fun v hv=>by
  rw[CU]
  have hvS:=(gM.1 hv).2
  simp only[al,au]at hvS
  constructor
  . intro hu u hul
    obtain⟨h3,h4⟩:=gM.1 hul
    simp only[al,au]at h4
    cases hr:R u v with
    | false=>rfl
    | true=>exact absurd (hu u (by unfold wo;simp[hr,h4.1,hvS.1])) h4.2
  . intro hu u hw
    obtain⟨h3,h4,_⟩:=DS hw
    refine aQ fun hno=>?_
    have:=hu u (gM.2 ⟨(hb _ _ h3).1,by simp[h4,hno]⟩)
    rw[h3]at this;cases this
 have hinl:∀ v,v<n->(decide (v∈left n S o)=(decide (v ∉ S)&&decide (v ∉ o))):=fun v hv=>by
  rw[Bool.eq_iff_iff,au];unfold left;rw[gM];simp[hv]
 have hend:(List.range n).find? (fun v=>decide (v∈left n S o)&&decide (qf R (left n S o) v=0))=(left n S o).find? (fun x=>decide (qf R (left n S o) x=0)):=by
  rw[<- List.head?_filter,<- List.head?_filter]
  refine congrArg List.head? ?_
  show _=((List.range n).filter fun x=>decide (x ∉ S)&&decide (x ∉ o)).filter fun x=>decide (qf R (left n S o) x=0)
  rw[List.filter_filter]
  refine bI fun v hv=>?_
  rw[hinl v (List.mem_range.1 hv),Bool.and_comm]
 have hany:(List.range n).any (fun v=>decide (v∈left n S o))=!(left n S o).isEmpty:=by
  rw[Bool.eq_iff_iff,br]
  constructor
  . rintro⟨v,_,hv⟩
    have:=aG hv
    cases hl:left n S o with
    | nil=>rw[hl]at this;cases this
    | cons=>rfl
  . intro he
    cases hl:left n S o with
    | nil=>rw[hl]at he;cases he
    | cons v l=>
      have hv:v∈left n S o:=by rw[hl];exact ay ..
      exact⟨v,List.mem_range.2 (gM.1 hv).1,by rw[<- hl];exact aF hv⟩
 rw[<- hend,<- hany]
 refine cD (f:=G.lu (zn S) ((n:Int),E.filter (kp S)) (zn o)) n (fun t=>(nxt (((List.range n).drop (n-t)).find? fun v=>decide (v∈left n S o)&&decide (qf R (left n S o) v=0)),((List.range n).drop (n-t)).any (fun v=>decide (v∈left n S o)),(n:Int)-1-(t:Int))) _ (fun t ht=>?_) ?_ (by
  simp only[Nat.sub_zero]
  rw[List.drop_of_length_le (by simp)];simp[nxt])
 . unfold G.lu
   have hd:(List.range n).drop (n-(t+1))=(n-1-t)::(List.range n).drop (n-t):=by
    rw[bA (by simp;omega),List.getElem_range,show n-(t+1)+1=n-t by omega,show n-(t+1)=n-1-t by omega]
   have hv:(n:Int)-1-(t:Int)=((n-1-t:Nat):Int):=by omega
   rw[if_pos (by simp only;omega)]
   have hw:i64.wrap ((n:Int)-1-(t:Int)-1)=(n:Int)-1-((t+1:Nat):Int):=by rw[fB (by omega) (by omega)];omega
   simp only[hw]
   rw[hv,FT _ _ (by rw[da];omega),FT _ _ (by rw[da];omega),hd,List.find?_cons,List.any_cons]
   have hvn:n-1-t<n:=by omega
   have hin:=hinl _ hvn
   generalize n-1-t=v at*
   simp only[ae,qc]
   by_cases hS1:v∈S
   . rw[if_pos (aF hS1)]
     simp only[ae,if_true]
     rw[hin];simp[hS1]
   . rw[if_neg (by simp[hS1])]
     simp only[ae]
     by_cases ho1:v∈o
     . rw[if_pos (aF ho1),hin];simp[ho1]
     . obtain⟨b,hb3,hb4⟩:=Vv h2 hb2 hn v ho
       rw[if_neg (by simp[ho1]),hb3]
       simp only[ae]
       have hvl:v∈left n S o:=aG (by rw[hin];simp[hS1,ho1])
       rw[aF hvl]
       have hf:=hfree v hvl
       by_cases hc:qf R (left n S o) v=0
       . rw[if_pos (hb4.2 (hf.2 hc)),aF hc];rfl
       . rw[if_neg fun e=>hc (hf.1 (hb4.1 e)),decide_eq_false hc];rfl
 . unfold G.lu
   rw[if_neg (by simp only;omega)]
   simp
theorem Fe(h:RG n R E)(hb:∀ i j,R i j=true->i<n/\j<n)(hn:n<50){S:List Nat}(hS:S.length<=1000):∀ (m:Nat) (o:List Nat),(left n S o).length<=m->o.length+m<=1000->
 Iter (G.iH (zn S) ((n:Int),E.filter (kp S))) (zn o)=some (if(mJ R m (left n S o) o).1=[]then(zn (mJ R m (left n S o) o).2,true)else([],false))
 | m,o,hm,ho=>by
   have hp:=Wd h hb hn hS (o:=o) (by omega)
   have hw:i64.wrap ((n:Int)-1)=(n:Int)-1:=fB (by omega) (by omega)
   cases hl:left n S o with
   | nil=>
     have hk:mJ R m [] o=([],o):=by cases m<;>rfl
     rw[hk,if_pos rfl]
     refine j8 ?_
     unfold G.iH
     simp only[hw]
     rw[hp,hl];rfl
   | cons a l=>
     cases m with
     | zero=>rw[hl]at hm;simp at hm
     | succ m=>
       rw[<- hl]
       cases hf:(left n S o).find? fun x=>decide (qf R (left n S o) x=0)with
       | none=>
         have hk:mJ R (m+1) (left n S o) o=(left n S o,o):=by unfold mJ;rw[hf]
         rw[hk,if_neg (by rw[hl];simp)]
         refine j8 ?_
         unfold G.iH
         simp only[hw]
         rw[hp,hf,hl];rfl
       | some v=>
         have hk:mJ R (m+1) (left n S o) o=mJ R m ((left n S o).filter fun x=>decide (x≠v)) (o++[v]):=by
          conv=>lhs;unfold mJ
          rw[hf]
         have hvm:=List.mem_of_find?_eq_some hf
         have hleft:((left n S o).filter fun x=>decide (x≠v))=left n S (o++[v]):=by
          unfold left
          rw[List.filter_filter]
          refine bI fun x _=>?_
          rw[Bool.eq_iff_iff]
          simp only[al,au,aL,List.mem_singleton,not_or]
          exact⟨fun⟨a,b,c⟩=>⟨b,c,a⟩,fun⟨b,c,a⟩=>⟨a,b,c⟩⟩
         have hstep:G.iH (zn S) ((n:Int),E.filter (kp S)) (zn o)=some (.inl (zn (o++[v]))):=by
          unfold G.iH
          simp only[hw]
          rw[hp,hf,hl]
          simp only[ae,nxt,List.isEmpty_cons]
          rw[if_neg (by simp),if_neg (by omega),dT (by rw[da];simp;omega),re];rfl
         rw[rh hstep,hk,hleft]
         refine Fe h hb hn hS m _ ?_ (by simp;omega)
         rw[<- hleft]
         have hln:(left n S o).Nodup:=oX n _
         have:=(xY hln hvm).length_eq
         rw[bK]at this
         omega
theorem SY(n:Nat)(S:List Nat):left n S []=K0 n S:=by unfold left K0;simp
theorem ME(h:RG n R E)(hb:∀ i j,R i j=true->i<n/\j<n)(hn:n<50){S:List Nat}(hS:S.length<=1000):
 G.tJ (zn S) (n:Int) E=some (if(mJ R n (K0 n S) []).1=[]then(zn (mJ R n (K0 n S) []).2,true)else([],false)):=by
 unfold G.tJ
 rw[(h.CE hS).1]
 simp only[ae]
 have:=Fe h hb hn hS n [] (lM _ _) (by simp;omega)
 rw[SY]at this
 exact this
end
section
variable {n:Nat}{R:Nat->Nat->Bool}{es:List (G.bN×Bool)}{out mX:List (Int×List Int)}
theorem RY(h:PG n R es out mX)(hn:n<50){S:List Nat}(hS:S.length<=1000):
 G.zl (zn S) (n:Int) es out mX=some (if(mJ R n (K0 n S) []).1=[]then(zn (mJ R n (K0 n S) []).2,true)else([],false)):=by
 unfold G.zl
 rw[Jr h hn hS]
 simp only[ae,XP]
 cases(mJ R n (K0 n S) []).1 with
 | nil=>simp
 | cons a l=>simp
end
end G
end
section
open G
namespace G
def HZ(w:Nat->Int):List Nat->Nat
 | []=>0
 | x::t=>t.foldl (fun b y=>if w y<w b then y else b) x
theorem Lv(w:Nat->Int)(l:List Nat)(y:Nat):HZ w (l++[y])=if l=[]then y else if w y<w (HZ w l)then y else HZ w l:=by
 cases l with
 | nil=>rfl
 | cons x t=>
   rw[if_neg (by simp)]
   show(t++[y]).foldl (fun b y=>if w y<w b then y else b) x=_
   rw[List.foldl_append];rfl
theorem FH(w:Nat->Int){l:List Nat}(h:l≠[]):HZ w l∈l:=by
 cases l with
 | nil=>exact absurd rfl h
 | cons x t=>
   show t.foldl (fun b y=>if w y<w b then y else b) x∈x::t
   clear h
   induction t generalizing x with
   | nil=>simp
   | cons y t ih=>
     rw[List.foldl_cons]
     have:=ih (if w y<w x then y else x)
     rcases aV.1 this with e|e
     . rw[e];split<;>simp
     . exact aE _ (aE _ e)
def wt(W:List Int)(v:Nat):Int:=W.getD v 0
theorem HR{W:List Int}{v:Nat}(h:v<W.length):G.ve W (v:Int)=some (wt W v):=by
 unfold G.ve wt
 rw[if_neg (by omega)]
 simp only[ae]
 rw[if_neg (by simp;omega),eZ 0 h];rfl
theorem HU{W:List Int}{v:Nat}(h:v<W.length):G.py W (v:Int)=some (wt W v):=by
 unfold G.py wt
 rw[if_neg (by omega)]
 simp only[ae]
 rw[if_neg (by simp;omega),eZ 0 h];rfl
theorem MS{W:List Int}{l:List Nat}(hl:∀ v∈l,v<W.length)(hn:l.length<=1000):G.eI (zn l) W=some ((HZ (wt W) l:Int),decide (l≠[])):=by
 unfold G.eI
 have hI:Iter (G.dh (zn l) W) ((0:Int),(0:Int))=some (HZ (wt W) l:Int):=by
  refine cD (f:=G.dh (zn l) W) l.length (fun k=>((HZ (wt W) (l.take k):Int),(k:Int))) _ (fun k hk=>?_) ?_ (by simp[HZ])
  . unfold G.dh
    rw[if_pos (by rw[da];omega),zo hk]
    have htk:=aD hk
    simp only[ae,dk hk (by omega)]
    rw[htk,Lv]
    by_cases h0:k=0
    . subst h0;simp
    . have hne:l.take k≠[]:=fun e=>by have:=congrArg List.length e;rw[aM,List.length_nil]at this;omega
      have hb:=hl _ (List.mem_of_mem_take (FH (wt W) hne))
      rw[if_neg (by omega),if_neg hne]
      unfold G.u9
      rw[HR (hl _ (az hk)),HR hb]
      simp only[ae,au]
      split<;>rfl
  . unfold G.dh
    rw[if_neg (by rw[da];omega),bD]
 rw[hI]
 simp only[ae,da]
 congr 2
 rw[bg]
 cases l<;>simp
theorem Lc{l oT:List Nat}(h:∀ v∈l,v ∉ oT)(hn:l.length<=1000)(hk:oT.length<=1000):G.dI (zn l) (zn oT)=some (zn l):=by
 unfold G.dI G.fo
 have hI:Iter (G.cJ (zn l) (zn oT)) (0:Int)=some (-1:Int):=by
  refine cD (f:=G.cJ (zn l) (zn oT)) l.length (fun k=>(k:Int)) _ (fun k hk2=>?_) ?_ rfl
  . unfold G.cJ G.uZ
    rw[if_pos (by rw[da];omega),zo hk2]
    simp only[ae]
    rw[qg _ _ (by rw[da];omega)]
    simp only[ae,qc]
    rw[decide_eq_false (h _ (az hk2)),if_neg (by simp),dk hk2 (by omega)]
  . unfold G.cJ
    rw[if_neg (by rw[da];omega)]
 rw[hI]
 simp only[ae,if_true]
noncomputable def J2(R:Nat->Nat->Bool)(n:Nat)(w:Nat->Int):Nat->List Nat->List Nat
 | 0,T=>T
 | m+1,T=>if ub R n T=[]then T else J2 R n w m (T++[HZ w (ub R n T)])
theorem C7{R:Nat->Nat->Bool}{n:Nat}{T:List Nat}{v:Nat}(h:v∈ub R n T):v<n/\v ∉ T/\∃ k,R v k=true:=by
 obtain⟨h1,h2⟩:=C6.1 h
 obtain⟨k,hk⟩:=h2.fst
 have:=DS hk
 exact⟨h1,this.2.1,k,this.1⟩
theorem tR{R:Nat->Nat->Bool}{n:Nat}{w:Nat->Int}{T:List Nat}(hT:T.Nodup)(hTn:∀ t∈T,t<n)(hc:ub R n T≠[]):(T++[HZ w (ub R n T)]).Nodup/\(∀ t∈T++[HZ w (ub R n T)],t<n)/\T.length<n:=by
 have hb:=C7 (FH w hc)
 have h1:(T++[HZ w (ub R n T)]).Nodup:=by rw[List.nodup_append];exact⟨hT,by simp,fun x hx y hy=>by simp at hy;subst hy;exact fun e=>hb.2.1 (by rw[<- e];exact hx)⟩
 have h2:∀ t∈T++[HZ w (ub R n T)],t<n:=fun t ht=>by
  rcases aL.1 ht with h|h
  . exact hTn t h
  . rw[List.mem_singleton.1 h];exact hb.1
 have h3:=Aj n _ h1 h2
 rw[aq,bm]at h3
 exact⟨h1,h2,h3⟩
theorem OI{R:Nat->Nat->Bool}{n:Nat}{w:Nat->Int}:∀ (m:Nat) (T:List Nat),T.Nodup->(∀ t∈T,t<n)->n-T.length<=m->ub R n (J2 R n w m T)=[]/\(J2 R n w m T).Nodup/\(∀ t∈J2 R n w m T,t<n/\(t∈T\/∃ k,R t k=true))/\(ub R n T=[]↔J2 R n w m T=T)
 | 0,T,hT,hTn,hm=>by
   have hc:ub R n T=[]:=aQ fun hc=>by have:=(tR (w:=w) hT hTn hc).2.2;omega
   exact⟨hc,hT,fun t ht=>⟨hTn t ht, .inl ht⟩,fun _=>rfl,fun _=>hc⟩
 | m+1,T,hT,hTn,hm=>by
   unfold J2
   by_cases hc:ub R n T=[]
   . rw[if_pos hc];exact⟨hc,hT,fun t ht=>⟨hTn t ht, .inl ht⟩,fun _=>rfl,fun _=>hc⟩
   . rw[if_neg hc]
     obtain⟨h1,h2,h3⟩:=tR (w:=w) hT hTn hc
     obtain⟨k1,k2,k3,_⟩:=OI (w:=w) m _ h1 h2 (by rw[aq,bm];omega)
     refine⟨k1,k2,fun t ht=>⟨(k3 t ht).1,?_⟩,fun e=>absurd e hc,fun e=>?_⟩
     . rcases(k3 t ht).2 with h|h
       . rcases aL.1 h with h|h
         . exact .inl h
         . rw[List.mem_singleton.1 h];exact .inr (C7 (FH w hc)).2.2
       . exact .inr h
     . have hpre:∀ (m:Nat) (T:List Nat),T <+: J2 R n w m T:=fun m=>by
        induction m with
        | zero=>exact fun T=>List.prefix_refl _
        | succ m ih=>
          intro T
          unfold J2
          split
          . exact List.prefix_refl _
          . exact(List.prefix_append _ _).trans (ih _)
       have:=(hpre m (T++[HZ w (ub R n T)])).length_le
       rw[e,aq,bm]at this
       omega
section
variable {n:Nat}{R:Nat->Nat->Bool}{es:List (G.bN×Bool)}{out mX:List (Int×List Int)}{W:List Int}{oT:List Nat}
theorem Pr(h:PG n R es out mX)(hn:n<50)(hb:∀ i j,R i j=true->i<n/\j<n)(hR:∀ i j,R i j=true->i≠j)(hW:W.length=n)(hk:∀ v∈oT,∀ k,R v k=false)(hkl:oT.length<=1000){T:List Nat}(hT:T.length<=1000):
 G.vM W (zn T) (zn oT) (n:Int) es out mX=some ((HZ (wt W) (ub R n T):Int),decide (ub R n T≠[]),decide (ub R n T≠[]),es):=by
 have hl:(ub R n T).length<=n:=lM n fun v=>@decide (TC (wo R T) v v) (Classical.propDecidable _)
 unfold G.vM
 rw[P3 h hn hb hR hT]
 simp only[ae]
 rw[Lc (fun v hv hvk=>by
  obtain⟨_,_,k,hk2⟩:=C7 hv
  rw[hk v hvk k]at hk2;cases hk2) (by omega) hkl]
 simp only[ae]
 rw[MS (fun v hv=>by rw[hW];exact(C7 hv).1) (by omega)]
 simp only[ae,da]
 congr 4
 rw[bg]
 cases ub R n T<;>simp
theorem PZ(h:PG n R es out mX)(hn:n<50)(hb:∀ i j,R i j=true->i<n/\j<n)(hR:∀ i j,R i j=true->i≠j)(hW:W.length=n)(hk:∀ v∈oT,∀ k,R v k=false)(hkl:oT.length<=1000):
 G.uY W (zn oT) (n:Int) es out mX=some (zn (J2 R n (wt W) n []),true,(n:Int),es,out,mX):=by
 have hloop:∀ (m:Nat) (T:List Nat),T.Nodup->(∀ t∈T,t<n)->n-T.length<=m->
  Iter G.oM (decide (ub R n T≠[]),decide (ub R n T≠[]),(n:Int),es,out,mX,zn (if ub R n T=[]then T else T++[HZ (wt W) (ub R n T)]),W,zn oT)=some (false,(n:Int),es,out,mX,zn (J2 R n (wt W) m T)):=fun m=>by
  induction m with
  | zero=>
    intro T hT hTn hm
    have hc:ub R n T=[]:=aQ fun hc=>by have:=(tR (w:=wt W) hT hTn hc).2.2;omega
    refine j8 ?_
    unfold G.oM J2
    simp[hc]
  | succ m ih=>
    intro T hT hTn hm
    by_cases hc:ub R n T=[]
    . refine j8 ?_
      unfold G.oM J2
      simp[hc]
    . obtain⟨h1,h2,h3⟩:=tR (w:=wt W) hT hTn hc
      unfold J2
      rw[if_neg hc,if_neg hc]
      rw[<- ih _ h1 h2 (by rw[aq,bm];omega)]
      refine rh ?_
      unfold G.oM G.uC
      rw[aF hc,if_pos rfl]
      simp only
      rw[Pr h hn hb hR hW hk hkl (by simp;omega)]
      simp only[ae]
      generalize hT':T++[HZ (wt W) (ub R n T)]=T' at*
      have hl':T'.length<=n:=Aj n T' h1 h2
      by_cases hc2:ub R n T'=[]
      . simp[hc2]
      . rw[aF hc2,if_pos rfl,dT (by rw[da];simp;omega),if_neg hc2,re];rfl
 have h0:=hloop n [] List.nodup_nil (by simp) (by simp)
 unfold G.uY G.vL
 have h1:=Pr h hn hb hR hW hk hkl (T:=[]) (by simp)
 rw[show zn []=([]:List Int) from rfl]at h1
 rw[h1]
 simp only[ae]
 have e:((if decide (ub R n []≠[])=true then(app 8 ([]:List Int) [(HZ (wt W) (ub R n []):Int)]).bind fun y3=>some y3 else some ([]:List Int)):Option (List Int))=some (zn (if ub R n []=[]then[]else[]++[HZ (wt W) (ub R n [])])):=by
  by_cases hc:ub R n []=[]
  . simp[hc,zn]
  . rw[aF hc,if_pos rfl,if_neg hc,dT (by simp)];rfl
 rw[e]
 simp only[ae]
 rw[h0]
 simp
theorem N8{E:List G.bP}(h:RG n R E)(hn:n<50)(hb:∀ i j,R i j=true->i<n/\j<n)(hW:W.length=n){T:List Nat}(hT:T.length<=1000)(hc:ub R n T≠[]):G.uG W (zn T) [] (n:Int) E=some (HZ (wt W) (ub R n T):Int):=by
 have hl:(ub R n T).length<=n:=lM n fun v=>@decide (TC (wo R T) v v) (Classical.propDecidable _)
 unfold G.uG
 rw[yX h hn hb hT]
 simp only[ae]
 have hlt:∀ v∈ub R n T,v<W.length:=fun v hv=>by rw[hW];exact(C7 hv).1
 generalize ub R n T=l at*
 refine cD (f:=G.oh W [] (zn l)) l.length (fun k=>(if l.take k=[]then(-1:Int)else(HZ (wt W) (l.take k):Int),(k:Int))) _ (fun k hk=>?_) ?_ (by simp)
 . unfold G.oh
   rw[if_pos (by rw[da];omega),zo hk]
   have htk:=aD hk
   simp only[ae,dk hk (by omega)]
   rw[VA [] _ (by simp)]
   simp only[ae]
   rw[decide_eq_false (by simp),if_pos rfl,if_neg (fun e=>by have:=congrArg List.length e;rw[aM,List.length_nil]at this;omega:¬ l.take (k+1)=[]),htk,Lv]
   by_cases h0:l.take k=[]
   . rw[if_pos h0,if_pos (by omega)]
     simp[h0]
   . have hbm:=hlt _ (List.mem_of_mem_take (FH (wt W) h0))
     rw[if_neg h0,if_neg (by omega),HU (hlt _ (az hk)),HU hbm,if_neg h0]
     simp only[ae,au]
     split<;>rfl
 . unfold G.oh
   rw[if_neg (by rw[da];omega),bD,if_neg hc]
theorem KR{E:List G.bP}(h:RG n R E)(hn:n<50)(hb:∀ i j,R i j=true->i<n/\j<n)(hW:W.length=n):G.wV W [] (n:Int) E=some (zn (J2 R n (wt W) n []),true):=by
 have hloop:∀ (m:Nat) (T:List Nat),T.Nodup->(∀ t∈T,t<n)->n-T.length<=m->Iter (G.kl W [] (n:Int) E) (zn T)=some (zn (J2 R n (wt W) m T),true):=fun m=>by
  have hfin:∀ T:List Nat,T.Nodup->(∀ t∈T,t<n)->ub R n T=[]->Iter (G.kl W [] (n:Int) E) (zn T)=some (zn T,true):=fun T hT hTn hc=>by
   have hl:=Aj n T hT hTn
   refine j8 ?_
   unfold G.kl
   rw[yX h hn hb (by omega),hc]
   simp[zn]
  induction m with
  | zero=>
    intro T hT hTn hm
    have hc:ub R n T=[]:=aQ fun hc=>by have:=(tR (w:=wt W) hT hTn hc).2.2;omega
    exact hfin T hT hTn hc
  | succ m ih=>
    intro T hT hTn hm
    by_cases hc:ub R n T=[]
    . unfold J2
      rw[if_pos hc];exact hfin T hT hTn hc
    . obtain⟨h1,h2,h3⟩:=tR (w:=wt W) hT hTn hc
      unfold J2
      rw[if_neg hc,<- ih _ h1 h2 (by rw[aq,bm];omega)]
      refine rh ?_
      unfold G.kl
      rw[yX h hn hb (by omega)]
      simp only[ae]
      rw[if_pos (by rw[da];have:=List.length_pos_iff.2 hc;omega),N8 h hn hb hW (by omega) hc]
      simp only[ae]
      rw[if_neg (by omega),dT (by rw[da];simp;omega),re];rfl
 exact hloop n [] List.nodup_nil (by simp) (by simp)
end
section
variable {R:Nat->Nat->Bool}
theorem I1:∀ (m:Nat) (K o:List Nat),K.Nodup->((mJ R m K o).2++(mJ R m K o).1).Perm (o++K)
 | 0,K,o,_=>List.Perm.refl _
 | m+1,K,o,hK=>by
   unfold mJ
   split
   . exact List.Perm.refl _
   . rename_i v hv
     refine(I1 m _ _ (List.Pairwise.filter _ hK)).trans ?_
     rw[aA]
     exact(xY hK (List.mem_of_find?_eq_some hv)).symm.append_left _
theorem I2:∀ (m:Nat) (K o:List Nat),K.Nodup->∃ rest,(mJ R m K o).2=o++rest/\(∀ x∈rest,x∈K)/\rest.Pairwise fun a b=>R b a=false
 | 0,K,o,_=>⟨[],by simp[mJ],by simp,List.Pairwise.nil⟩
 | m+1,K,o,hK=>by
   unfold mJ
   split
   . exact⟨[],by simp,by simp,List.Pairwise.nil⟩
   . rename_i v hv
     obtain⟨rest,h1,h2,h3⟩:=I2 m (K.filter fun x=>decide (x≠v)) (o++[v]) (List.Pairwise.filter _ hK)
     have h0:=List.find?_some hv
     have h0:=CU.1 (aG h0)
     refine⟨v::rest,by rw[h1,aA];rfl,fun x hx=>?_,List.pairwise_cons.2 ⟨fun b hb=>h0 b (aR.1 (h2 b hb)).1,h3⟩⟩
     rcases aV.1 hx with rfl|hx
     . exact List.mem_of_find?_eq_some hv
     . exact(aR.1 (h2 x hx)).1
theorem G8:∀ (m:Nat) (K o:List Nat),K.Nodup->K.length<=m->∀ x∈(mJ R m K o).1,∃ u∈(mJ R m K o).1,R u x=true
 | 0,K,o,_,hm,x,hx=>by
   rw[List.length_eq_zero_iff.1 (Nat.le_zero.1 hm)]at hx
   exact absurd hx (by simp[mJ])
 | m+1,K,o,hK,hm,x,hx=>by
   unfold mJ at hx ⊢
   split at hx
   . rename_i hf
     simp only at hx ⊢
     have:=List.find?_eq_none.1 hf x hx
     have h1:¬ qf R K x=0:=by simpa using this
     rw[CU]at h1
     obtain⟨u,hu⟩:=Classical.not_forall.1 h1
     rw[Classical.not_imp]at hu
     exact⟨u,hu.1,by simpa using hu.2⟩
   . rename_i v hv
     refine G8 m _ _ (List.Pairwise.filter _ hK) ?_ x hx
     have:=(xY hK (List.mem_of_find?_eq_some hv)).length_eq
     rw[bK]at this;omega
theorem SP(m:Nat)(K o:List Nat):∀ x∈(mJ R m K o).1,x∈K:=by
 induction m generalizing K o with
 | zero=>exact fun x h=>h
 | succ m ih=>
   intro x hx
   unfold mJ at hx
   split at hx
   . exact hx
   . exact(aR.1 (ih _ _ x hx)).1
open Classical in
theorem LD{K:List Nat}(hK:∀ x∈K,∃ u∈K,R u x=true):∀ (k:Nat) (x:Nat),x∈K->(K.filter fun u=>decide (TC R u x)).length<=k->∃ v∈K,TC R v v
 | k,x,hx,hk=>by
   obtain⟨u,hu,hr⟩:=hK x hx
   by_cases hc:TC R u u
   . exact⟨u,hu,hc⟩
   . have hlt:(K.filter fun a=>decide (TC R a u)).length<(K.filter fun a=>decide (TC R a x)).length:=by
      have e:(K.filter fun a=>decide (TC R a u))=(K.filter fun a=>decide (TC R a x)).filter fun a=>decide (TC R a u):=by
       rw[List.filter_filter]
       refine bI fun a _=>?_
       rw[Bool.eq_iff_iff,al,au,au]
       exact⟨fun h=>⟨h,h.snoc hr⟩,fun h=>h.1⟩
      rw[e]
      refine List.length_filter_lt_length_iff_exists.2 ⟨u,aR.2 ⟨hu,aF (.one hr)⟩,?_⟩
      rw[au];exact hc
     cases k with
     | zero=>omega
     | succ k=>exact LD hK k u hu (by omega)
theorem QB{n:Nat}{S:List Nat}(hb:∀ i j,R i j=true->i<n/\j<n):(mJ R n (K0 n S) []).1=[]↔ub R n S=[]:=by
 constructor
 . intro h
   refine aQ fun hc=>?_
   cases hl:ub R n S with
   | nil=>exact hc hl
   | cons v l=>
     have hv:v∈ub R n S:=by rw[hl];exact ay ..
     have:=IL hb (C6.1 hv).2 n
     rw[h]at this;cases this
 . intro h
   refine aQ fun hc=>?_
   have hst:=G8 (R:=R) n (K0 n S) [] (oX _ _) (lM _ _)
   have hsub:=SP (R:=R) n (K0 n S) []
   generalize (mJ R n (K0 n S) []).1=K at*
   cases K with
   | nil=>exact hc rfl
   | cons x l=>
     have hS:∀ y∈x::l,y ∉ S/\y<n:=fun y hy=>by
      have:=gM.1 (hsub y hy)
      exact⟨aG this.2,this.1⟩
     obtain⟨v,hv,ht⟩:=LD (R:=wo R S) (K:=x::l) (fun y hy=>by
      obtain⟨u,hu,hr⟩:=hst y hy
      exact⟨u,hu,by unfold wo;simp[hr,(hS u hu).1,(hS y hy).1]⟩) _ x (ay ..) (Nat.le_refl _)
     have:v∈ub R n S:=C6.2 ⟨(hS v hv).2,ht⟩
     rw[h]at this;cases this
theorem NL{n:Nat}{S S':List Nat}(h:∀ x,x∈S↔x∈S'):K0 n S=K0 n S':=by
 unfold K0
 refine bI fun x _=>?_
 rw[bg,h]
end
end G
end
section
open G
namespace G
section
variable {d:G.Delta}{S:List G.Command}
theorem T6(h:Sm d S)(hn:d.commands.length<=20):Rt d.commands:=
 ⟨by omega,fun c hc=>Kj (h.vd.qq c hc) h.PA.2,fun c hc=>by
  have:=((h.vd.qq c hc).fit).data h.PA.1
  have h2:=h.new
  have h3:=(h.vd.qq c hc).fit.fits
  have h4:=(h.vd.qq c hc).fit.DL
  by_cases hk:c.kind=1
  . rw[(h.vd.qq c hc).nice.copy hk];simp
  . unfold dK at h3;rw[AP hk]at h3;omega,fun i hi=>by
  cases hc:Mv d.commands i with
  | false=>rfl
  | true=>exact absurd (Bb.2 ⟨i,hi,hc⟩) h.vd.apart⟩
end
def Rl(l:List G.Command)(i j:Nat):Bool:=decide (i<l.length)&&decide (j∈nb l i)
section
variable {l:List G.Command}
theorem Gm{i j:Nat}:Rl l i j=true↔i<l.length/\j<l.length/\i≠j/\Cl (cat l i) (cat l j)=true:=by
 unfold Rl;rw[al,au,au,Hi]
theorem UX(i j:Nat)(h:Rl l i j=true):i<l.length/\j<l.length:=⟨(Gm.1 h).1,(Gm.1 h).2.1⟩
theorem Zr(i j:Nat)(h:Rl l i j=true):i≠j:=(Gm.1 h).2.2.1
theorem OE{i j:Nat}(h:Rl l i j=true):(cat l i).kind=1:=by
 have:=(Gm.1 h).2.2.2
 unfold Cl at this
 exact(aG this).1
theorem Qw(h:Rt l):∃ es out mX,G.pI l=some ((l.length:Int),es,out,mX)/\PG l.length (Rl l) es out mX:=by
 have hn:=h.len
 obtain⟨es,out,mX,L,h1,h2,h3,h4⟩:=Nd h
 refine⟨es,out,mX,h1,⟨L,h2,by omega,fun e=>?_⟩⟩
 rw[h4]
 constructor
 . rintro⟨p,hp,rfl⟩
   obtain⟨k1,k2⟩:=F0.1 hp
   exact⟨p.1,p.2,k1,(Hi.1 k2).1,by unfold Rl;simp[k1,k2],rfl⟩
 . rintro⟨i,j,hi,hj,hr,rfl⟩
   unfold Rl at hr
   simp only[al,au]at hr
   exact⟨(i,j),F0.2 hr,rfl⟩
theorem IY(h:Rt l):∃ E,G.nA l=some ((l.length:Int),E)/\RG l.length (Rl l) E:=by
 have hn:=h.len
 refine⟨_,MD h,?_,fun e=>?_⟩
 . rw[aI]
   have:=KO l l.length
   have:l.length*l.length<=30*30:=Nat.mul_le_mul hn hn
   omega
 . rw[List.mem_map]
   constructor
   . rintro⟨p,hp,rfl⟩
     obtain⟨k1,k2⟩:=F0.1 hp
     exact⟨p.1,p.2,k1,(Hi.1 k2).1,by unfold Rl;simp[k1,k2],rfl⟩
   . rintro⟨i,j,hi,hj,hr,rfl⟩
     unfold Rl at hr
     simp only[al,au]at hr
     exact⟨(i,j),F0.2 hr,rfl⟩
def lits(l:List G.Command):List Nat:=(List.range l.length).filter fun i=>decide ((cat l i).kind=2)
def lens(l:List G.Command):List Int:=l.map (·.len)
noncomputable def ev(l:List G.Command):List Nat:=J2 (Rl l) l.length (wt (lens l)) l.length []
noncomputable def od(l:List G.Command):List Nat:=(mJ (Rl l) l.length (K0 l.length (lits l++ev l)) []).2
theorem Mc:(lits l).length<=l.length:=lM _ _
theorem FL:ub (Rl l) l.length (ev l)=[]/\(ev l).Nodup/\(∀ t∈ev l,t<l.length/\(cat l t).kind=1)/\(ub (Rl l) l.length []=[]↔ev l=[]):=by
 obtain⟨h1,h2,h3,h4⟩:=OI (R:=Rl l) (n:=l.length) (w:=wt (lens l)) l.length [] List.nodup_nil (by simp) (by simp)
 refine⟨h1,h2,fun t ht=>⟨(h3 t ht).1,?_⟩,h4⟩
 rcases(h3 t ht).2 with h|⟨k,h⟩
 . cases h
 . exact OE h
theorem Nx:(ev l).length<=l.length:=Aj _ _ FL.2.1 fun t ht=>(FL.2.2.1 t ht).1
theorem Sn{R:Nat->Nat->Bool}{n:Nat}{S S':List Nat}(hs:∀ x∈S,x∈S')(h:ub R n S=[]):ub R n S'=[]:=by
 refine aQ fun hc=>?_
 cases hl:ub R n S' with
 | nil=>exact hc hl
 | cons v t=>
   obtain⟨h1,h2⟩:=C6.1 (by rw[hl];exact ay .. :v∈ub R n S')
   have hm:∀ i j,TC (wo R S') i j->TC (wo R S) i j:=fun i j ht=>by
    have hw:∀ i j,wo R S' i j=true->wo R S i j=true:=fun i j hw=>by
     obtain⟨a,b,c⟩:=DS hw
     unfold wo
     rw[a,Bool.true_and,al,au,au]
     exact⟨fun hm=>b (hs _ hm),fun hm=>c (hs _ hm)⟩
    induction ht with
    | one h=>exact .one (hw _ _ h)
    | cons h _ ih=>exact .cons (hw _ _ h) ih
   have:v∈ub R n S:=C6.2 ⟨h1,hm _ _ h2⟩
   rw[h]at this;cases this
theorem KA:(mJ (Rl l) l.length (K0 l.length (lits l++ev l)) []).1=[]:=(QB UX).2 (Sn (fun x hx=>by simp[hx]) FL.1)
theorem F1:(od l).Perm (K0 l.length (lits l++ev l)):=by
 have:=I1 (R:=Rl l) l.length (K0 l.length (lits l++ev l)) [] (oX _ _)
 rw[KA,aN]at this
 exact this
theorem NV{x:Nat}:x∈od l↔x<l.length/\(cat l x).kind≠2/\x ∉ ev l:=by
 rw[F1.mem_iff]
 unfold K0
 rw[gM,au,aL,not_or]
 constructor
 . rintro⟨h1,h2,h3⟩
   exact⟨h1,fun hk=>h2 (gM.2 ⟨h1,aF hk⟩),h3⟩
 . rintro⟨h1,h2,h3⟩
   exact⟨h1,fun hm=>h2 (aG (gM.1 hm).2),h3⟩
theorem V2:(od l).Pairwise fun a b=>Rl l b a=false:=by
 obtain⟨rest,h1,_,h3⟩:=I2 (R:=Rl l) l.length (K0 l.length (lits l++ev l)) [] (oX _ _)
 have:od l=rest:=by unfold od;rw[h1];rfl
 rw[this];exact h3
theorem XY:(od l).length<=l.length:=by rw[F1.length_eq];exact lM _ _
theorem Tu:(od l).Nodup:=(F1.nodup_iff).2 (oX _ _)
theorem Mb(hn:l.length<=30)(g1:Int)(g2:List (G.bN×Bool))(g3 g4:List (Int×List Int)):G.fH l g1 g2 g3 g4=some (zn (lits l)):=by
 unfold G.fH lits
 refine r8 (f:=G.gb l) l.length (fun i=>decide ((cat l i).kind=2)) (fun k acc=>(zn acc,(k:Int))) _ (fun k hk=>?_) ?_ rfl
 . unfold G.gb
   have:=lM k fun i=>decide ((cat l i).kind=2)
   rw[if_pos (by simp only;omega)]
   simp only[cH hk,ae,dk hk (by omega),bT hk]
   by_cases h:l[k].kind=2
   . rw[if_pos h,dT (by rw[da,bm];omega),if_pos (aF h),re];rfl
   . rw[if_neg h,if_neg (by simpa using h),aN]
 . unfold G.gb
   rw[if_neg (by simp)]
theorem S4(hn:l.length<=30):Iter (G.ft l) (([]:List Int),(0:Int))=some (lens l):=by
 refine cD (f:=G.ft l) l.length (fun k=>(lens (l.take k),(k:Int))) _ (fun k hk=>?_) ?_ (by simp[lens])
 . unfold G.ft
   rw[if_pos (by simp only;omega)]
   simp only[cH hk,ae,dk hk (by omega)]
   rw[dT (by unfold lens;simp;omega),aD hk]
   unfold lens
   rw[bc];rfl
 . unfold G.ft
   rw[if_neg (by simp),bD]
theorem S5(hn:l.length<=30):Iter (G.jd l) (([]:List Int),(0:Int))=some (lens l):=by
 refine cD (f:=G.jd l) l.length (fun k=>(lens (l.take k),(k:Int))) _ (fun k hk=>?_) ?_ (by simp[lens])
 . unfold G.jd
   rw[if_pos (by simp only;omega)]
   simp only[cH hk,ae,dk hk (by omega)]
   rw[dT (by unfold lens;simp;omega),aD hk]
   unfold lens
   rw[bc];rfl
 . unfold G.jd
   rw[if_neg (by simp),bD]
theorem Ma:(lens l).length=l.length:=aI ..
theorem H6(h:Rt l):∃ g,G.yA l=some (l,zn (ev l),zn (od l),g):=by
 have hn:=h.len
 obtain⟨es,out,mX,h1,hG⟩:=Qw h
 unfold G.yA
 rw[h1]
 simp only[ae]
 unfold G.mR
 rw[S4 hn]
 simp only[ae]
 rw[Mb hn]
 simp only[ae]
 have hll:=Mc (l:=l)
 have hel:=Nx (l:=l)
 rw[PZ hG (by omega) UX Zr Ma (fun v hv k=>by
  cases hr:Rl l v k with
  | false=>rfl
  | true=>
    have:=aG (gM.1 hv).2
    rw[OE hr]at this;cases this) (by omega)]
 simp only[ae]
 rw[Mb hn]
 simp only[ae]
 have e:J2 (Rl l) l.length (wt (lens l)) l.length []=ev l:=rfl
 rw[e,dT (by rw[da,da];omega),<- re]
 simp only[ae]
 rw[RY hG (by omega) (by simp;omega),if_pos KA]
 exact⟨_,rfl⟩
theorem BT(h:Rt l):G.oi l=some (zn (ev l)):=by
 have hn:=h.len
 obtain⟨E,h1,hG⟩:=IY h
 unfold G.oi
 rw[S5 hn]
 simp only[ae]
 rw[h1]
 simp only[ae]
 rw[KR hG (by omega) UX Ma];rfl
theorem Ig(h:Rt l):G.tK l=some (zn (od l)):=by
 have hn:=h.len
 have hll:=Mc (l:=l)
 have hel:=Nx (l:=l)
 obtain⟨E,h1,hG⟩:=IY h
 unfold G.tK
 rw[BT h]
 simp only[ae]
 have hI:Iter (G.lv l) (zn (ev l),(0:Int))=some (zn (ev l++lits l)):=by
  refine r8 (f:=G.lv l) l.length (fun i=>decide ((cat l i).kind=2)) (fun k acc=>(zn (ev l++acc),(k:Int))) _ (fun k hk=>?_) ?_ (by simp)
  . unfold G.lv
    have:=lM k fun i=>decide ((cat l i).kind=2)
    rw[if_pos (by simp only;omega)]
    simp only[cH hk,ae,dk hk (by omega),bT hk]
    by_cases h:l[k].kind=2
    . rw[if_pos h,dT (by rw[da,aq,bm];omega),if_pos (aF h),<- aA,re (_++_)];rfl
    . rw[if_neg h,if_neg (by simpa using h),aN]
  . unfold G.lv
    rw[if_neg (by simp)];rfl
 rw[hI]
 simp only[ae]
 rw[h1]
 simp only[ae]
 rw[ME hG UX (by omega) (by simp;omega),NL (S':=lits l++ev l) (fun x=>by rw[aL,aL,or_comm]),if_pos KA];rfl
end
end G
end
end Go.Proofs.YtekpafdhgkocaaaGreat
