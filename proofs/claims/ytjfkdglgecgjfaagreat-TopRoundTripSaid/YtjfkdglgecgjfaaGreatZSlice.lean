/- Part of the proof. -/
import Derived.Test.YtjfkdglgecgjfaaGreatZPKA
import Derived.ChangeKeysEq
namespace Go.Proofs.YtjfkdglgecgjfaaGreat
section
open Go.RowKit
def At(m:Mem)(b o:Nat)(cs:List Value):Prop:=∀k v,cs[k]?=some v->m.ok b (o+k)/\m.w.cell? ⟨b,o+k,none⟩=some v
theorem At.mono{m m':Mem}{b o:Nat}{cs:List Value}(h:At m b o cs)(l:Le m m'):At m' b o cs:=
 fun k v hv=>let⟨h1,h2⟩:=h k v hv;⟨(l.same _ _ h1).1,((l.same _ _ h1).2).trans h2⟩
def Sl(m:Mem)(sz:Nat)(a:Option Addr)(n cap:Nat)(xs:List Value):Prop:=
 xs.length=n*sz/\n<=cap/\cap<=maxLen/\(a=none->cap=0)/\∀j v,xs[j]?=some v->∃b o,a=some ⟨b,o,none⟩/\m.ok b (o+j)/\m.w.cell? ⟨b,o+j,none⟩=some v
section
variable {m m':Mem}{sz:Nat}{a:Option Addr}{n cap:Nat}{xs ys:List Value}
theorem Sl.mono(h:Sl m sz a n cap xs)(l:Le m m'):Sl m' sz a n cap xs:=
 ⟨h.1,h.2.1,h.2.2.1,h.2.2.2.1,fun j v hv=>let⟨b,o,ha,h1,h2⟩:=h.2.2.2.2 j v hv;⟨b,o,ha,(l.same _ _ h1).1,((l.same _ _ h1).2).trans h2⟩⟩
theorem Sl.nil(m:Mem)(sz:Nat):Sl m sz none 0 0 []:=⟨by simp,Nat.le_refl _,by simp[maxLen],fun _=>rfl,fun j v h=>by simp at h⟩
theorem Sl.pN(h:Sl m sz a n cap xs):n<=9223372036854775807/\cap<=9223372036854775807/\n<=cap:=by
 have h1:=h.2.1;have h2:=h.2.2.1;unfold maxLen at h2;omega
theorem Sl.at(h:Sl m sz a n cap xs)(hp:0<xs.length):∃b o,a=some ⟨b,o,none⟩/\At m b o xs:=by
 obtain⟨b,o,ha,_⟩:=h.2.2.2.2 0 xs[0] (by simp[hp]);refine⟨b,o,ha,fun i v hv=>?_⟩;obtain⟨b',o',ha',hc⟩:=h.2.2.2.2 i v hv;rw[ha]at ha';cases ha';exact hc
def cX(a:Option Addr)(m l s:Nat):Option Addr:=if m=l then a else a.map (·.add (l*s))
theorem fp(a:Option Addr)(m s:Nat):cX a m 0 s=a:=by
 unfold cX;split
 . rfl
 . cases a<;>simp[Addr.add]
theorem Sl.Rj(h:Sl m sz a n cap xs)(l r q:Nat)(hl:l<=r)(hr:r<=n)(hrm:r<=q)(hm:q<=cap):
 Sl m sz (cX a q l sz) (r-l) (q-l) ((xs.take (r*sz)).drop (l*sz)):=by
 unfold cX
 obtain⟨h1,h2,h3,h0,h4⟩:=h
 have hle:r*sz<=n*sz:=Nat.mul_le_mul_right _ hr
 refine⟨by rw[ba,aH,h1,Nat.min_eq_left hle,Nat.sub_mul],by omega,by omega,fun e=>?_,fun j v hv=>?_⟩
 . have:a=none:=by
    split at e
    . exact e
    . simpa using e
   have:=h0 this;omega
 have hv':xs[l*sz+j]?=some v/\l*sz+j<r*sz:=by
  simp only[List.getElem?_drop,List.getElem?_take]at hv;split at hv
  . exact⟨hv,by assumption⟩
  . cases hv
 have hlr:l<r:=by
  by_cases e:l=r
  . subst e;omega
  . omega
 obtain⟨b,o,ha,hk,hc⟩:=h4 _ _ hv'.1
 refine⟨b,o+l*sz,?_,?_,?_⟩
 . rw[if_neg (by omega),ha];simp[Addr.add_mid]
 . rw[Nat.add_assoc];exact hk
 . rw[Nat.add_assoc];exact hc
end
def dc{α:Type}(R:Mem->α->List Value->Prop)(m:Mem)(sz:Nat)(a:Option Addr)(cap:Nat)(l:List α):Prop:=
 ∃css:List (List Value),Sl m sz a l.length cap css.flatten/\css.length=l.length/\
  ∀(i:Nat) (x:α) (cs:List Value),l[i]?=some x->css[i]?=some cs->cs.length=sz/\R m x cs
structure mh{α:Type}(R:Mem->α->List Value->Prop)(sz:Nat):Prop where
 mono:∀{m m':Mem} {x:α} {cs:List Value},R m x cs->Le m m'->R m' x cs
 size:∀{m:Mem} {x:α} {cs:List Value},R m x cs->cs.length=sz
 one:∀{m:Mem} {x:α} {cs:List Value},R m x cs->∀u∈cs,u.oneCell'=true
 pos:0<sz
section
variable {α:Type}{R:Mem->α->List Value->Prop}{m m':Mem}{sz:Nat}{a:Option Addr}{cap:Nat}{l l':List α}
theorem dc.mono(hR:mh R sz)(h:dc R m sz a cap l)(g:Le m m'):dc R m' sz a cap l:=
 let⟨css,h1,h2,h4⟩:=h;⟨css,h1.mono g,h2,fun i x cs hx hc=>⟨(h4 i x cs hx hc).1,hR.mono (h4 i x cs hx hc).2 g⟩⟩
theorem dc.pN(h:dc R m sz a cap l):l.length<=9223372036854775807/\cap<=9223372036854775807/\l.length<=cap:=let⟨_,h1,_⟩:=h;h1.pN
theorem dc.nil(m:Mem)(sz:Nat):dc R m sz none 0 ([]:List α):=⟨[],Sl.nil m sz,rfl,fun i x cs h=>by simp at h⟩
theorem fE{β:Type}(sz:Nat):∀(css:List (List β)),(∀(i:Nat) (cs:List β),css[i]?=some cs->cs.length=sz)->∀(i j:Nat) (cs:List β) (v:β),css[i]?=some cs->cs[j]?=some v->css.flatten[i*sz+j]?=some v
 |[],_,i,j,cs,v,h,_=>by simp at h
 |c::css,hl,0,j,cs,v,h,hv=>by
  simp at h;subst h;have hj:j<c.length:=(List.getElem?_eq_some_iff.1 hv).1;simp only[List.flatten_cons,Nat.zero_mul,aJ];rw[List.getElem?_append_left hj];exact hv
 |c::css,hl,i+1,j,cs,v,h,hv=>by
  have hc:c.length=sz:=hl 0 c rfl;simp at h;simp only[List.flatten_cons];rw[List.getElem?_append_right (by rw[hc,aM];omega)];have e:(i+1)*sz+j-c.length=i*sz+j:=by rw[hc,aM];omega
  rw[e];exact fE sz css (fun k cs hk=>hl (k+1) cs (by simpa using hk)) i j cs v h hv
theorem dc.lens{css:List (List Value)}(h2:css.length=l.length)(h4:∀(i:Nat) (x:α) (cs:List Value),l[i]?=some x->css[i]?=some cs->cs.length=sz/\R m x cs):
 ∀(i:Nat) (cs:List Value),css[i]?=some cs->cs.length=sz:=fun i cs hc=>by
 have hi:i<css.length:=(List.getElem?_eq_some_iff.1 hc).1
 exact(h4 i (l[i]'(by omega)) cs (by simp) hc).1
theorem dc.get(h:dc R m sz a cap l)(hs:0<sz){i:Nat}(hi:i<l.length):∃b o cs,a=some ⟨b,o,none⟩/\cs.length=sz/\R m l[i] cs/\At m b (o+i*sz) cs:=by
 obtain⟨css,h1,h2,h4⟩:=h;have hcl:=dc.lens h2 h4;have hpos:0<css.flatten.length:=by rw[h1.1];exact Nat.mul_pos (by omega) hs
 obtain⟨b,o,ha,hc⟩:=h1.at hpos;have hjc:i<css.length:=by omega
 obtain⟨k1,k2⟩:=h4 i l[i] css[i] (by simp) (by simp);refine⟨b,o,css[i],ha,k1,k2,fun k v hv=>?_⟩;have:=hc _ _ (fE sz css hcl i k css[i] v (by simp) hv);rw[Nat.add_assoc];exact this
theorem kQ{β:Type}(sz:Nat):∀(css:List (List β)) (k:Nat),(∀(i:Nat) (cs:List β),css[i]?=some cs->cs.length=sz)->css.flatten.drop (k*sz)=(css.drop k).flatten
 |css,0,_=>by simp
 |[],k+1,_=>by simp
 |c::css,k+1,hl=>by
  have hc:c.length=sz:=hl 0 c rfl;simp only[List.flatten_cons,List.drop_succ_cons];rw[show(k+1)*sz=c.length+k*sz by rw[hc,aM];omega,List.drop_append,List.drop_of_length_le (by omega),show c.length+k*sz-c.length=k*sz by omega,aL];exact kQ sz css k (fun i cs hk=>hl (i+1) cs (by simpa using hk))
theorem kT{β:Type}(sz:Nat):∀(css:List (List β)) (k:Nat),(∀(i:Nat) (cs:List β),css[i]?=some cs->cs.length=sz)->css.flatten.take (k*sz)=(css.take k).flatten
 |css,0,_=>by simp
 |[],k+1,_=>by simp
 |c::css,k+1,hl=>by
  have hc:c.length=sz:=hl 0 c rfl;simp only[List.flatten_cons,List.take_succ_cons];rw[show(k+1)*sz=c.length+k*sz by rw[hc,aM];omega,List.take_append,bu (by omega),show c.length+k*sz-c.length=k*sz by omega];rw[kT sz css k (fun i cs hk=>hl (i+1) cs (by simpa using hk))]
theorem dc.Rj(h:dc R m sz a cap l)(i r q:Nat)(hl:i<=r)(hr:r<=l.length)(hrm:r<=q)(hm:q<=cap):
 dc R m sz (cX a q i sz) (q-i) ((l.take r).drop i):=by
 obtain⟨css,h1,h2,h4⟩:=h
 have hcl:=dc.lens h2 h4
 refine⟨(css.take r).drop i,?_,by simp[h2],fun j x cs hx hc=>?_⟩
 . have:=h1.Rj i r q hl hr hrm hm
   rw[kT sz css r hcl,kQ sz (css.take r) i (fun k cs hk=>hcl k cs (by
    rw[List.getElem?_take]at hk;split at hk
    . exact hk
    . cases hk))]at this
   rw[show((l.take r).drop i).length=r-i by simp;omega]
   exact this
 . simp only[List.getElem?_drop,List.getElem?_take]at hx hc
   split at hx
   . rename_i hlt
     rw[if_pos hlt]at hc
     exact h4 _ _ _ hx hc
   . cases hx
theorem dc.cut(h:dc R m sz a cap l)(i r:Nat)(hl:i<=r)(hr:r<=l.length):dc R m sz (cX a cap i sz) (cap-i) ((l.take r).drop i):=
 h.Rj i r cap hl hr (Nat.le_trans hr h.pN.2.2) (Nat.le_refl _)
theorem dc.upto(h:dc R m sz a cap l)(r:Nat)(hr:r<=l.length):dc R m sz a cap (l.take r):=by
 have:=h.cut 0 r (by omega) hr;simpa[fp]using this
theorem dc.from(h:dc R m sz a cap l)(i:Nat)(hl:i<=l.length):dc R m sz (cX a cap i sz) (cap-i) (l.drop i):=by
 have:=h.cut i l.length hl (Nat.le_refl _);rwa[bu (Nat.le_refl _)]at this
theorem dc.Xj(hR:mh R sz){b o:Nat}{css:List (List Value)}(hlen:css.length=l.length)(hc:∀(i:Nat) (x:α) (cs:List Value),l[i]?=some x->css[i]?=some cs->R m x cs)
 (hat:At m b o css.flatten) (hcap:l.length<=cap) (hm:cap<=maxLen):dc R m sz (some ⟨b,o,none⟩) cap l:=by
 have hl:∀(i:Nat) (cs:List Value),css[i]?=some cs->cs.length=sz:=fun i cs hci=>by
  have hi:i<css.length:=(List.getElem?_eq_some_iff.1 hci).1;exact hR.size (hc i (l[i]'(by omega)) cs (by simp) hci)
 have hfl:∀(css:List (List Value)),(∀(i:Nat) (cs:List Value),css[i]?=some cs->cs.length=sz)->css.flatten.length=css.length*sz:=by
  intro css
  induction css with
  |nil=>intro _;simp
  |cons c css ih=>
   intro h
   simp only[List.flatten_cons,ay,bp]
   rw[h 0 c rfl,ih (fun i cs hi=>h (i+1) cs (by simpa using hi)),aM];omega
 refine⟨css,⟨by rw[hfl css hl,hlen],hcap,hm,(fun e=>by cases e),fun j v hv=>⟨b,o,rfl,(hat j v hv).1,(hat j v hv).2⟩⟩,hlen,fun i x cs hx hci=>⟨hl i cs hci,hc i x cs hx hci⟩⟩
end
structure cV(P:Program)(t e:TypeId)(z:Value)(sz bytes:Nat):Prop where
 fg:P.underlying t=some (.slice e)
 info:(P.info? e).map (fun i=>(i.zero,i.size,i.bytes))=some (some z,sz,bytes)
 zs:z.cells.size=sz
 pos:0<sz
theorem info_parts{P:Program}{e:TypeId}{z:Value}{sz bytes:Nat}(h:(P.info? e).map (fun i=>(i.zero,i.size,i.bytes))=some (some z,sz,bytes)):
 ∃i,P.info? e=some i/\i.zero=some z/\i.size=sz/\i.bytes=bytes:=by
 cases hi:P.info? e with
 |none=>simp[hi]at h
 |some i=>simp[hi]at h;exact⟨i,rfl,h⟩
abbrev eG(g:Option Nat):Option Addr:=g.map fun b=>⟨b,0,none⟩
def Mem.now(m:Mem):Mem:=⟨m.w,fun _ _=>True⟩
theorem Sl.all{m:Mem}{sz n cap:Nat}{a:Option Addr}{xs:List Value}(h:Sl m sz a n cap xs):Sl m.now sz a n cap xs:=
 ⟨h.1,h.2.1,h.2.2.1,h.2.2.2.1,fun j v hv=>by obtain⟨b,o,h1,h2,h3⟩:=h.2.2.2.2 j v hv;exact⟨b,o,h1,⟨trivial,h2.2⟩,h3⟩⟩
def MU{α:Type}(R:Mem->α->List Value->Prop)(m:Mem)(sz:Nat)(a:Option Addr)(cap:Nat)(l:List α):Prop:=
 ∃css:List (List Value),Sl m.now sz a l.length cap css.flatten/\css.length=l.length/\
  ∀(i:Nat) (x:α) (cs:List Value),l[i]?=some x->css[i]?=some cs->cs.length=sz/\R m x cs
theorem dc.src{α:Type}{R:Mem->α->List Value->Prop}{m:Mem}{sz cap:Nat}{a:Option Addr}{l:List α}(h:dc R m sz a cap l):MU R m sz a cap l:=
 let⟨css,h1,h2⟩:=h;⟨css,h1.all,h2⟩
section
variable {P:Program}{m:Mem}{t ty e:TypeId}{z:Value}{sz bytes:Nat}
theorem sF(hT:cV P t e z sz bytes)(g:Option Nat)(n cap:Nat)(cur:Array Value)(hg:∀b,g=some b->m.w.heap[b]?=some (.cells cur e (0,0)))(hcs:g≠none->cur.size=cap*sz)(hnil:g=none->cap=0)
 (a2:Option Addr) (k cap2:Nat) (ys:List Value) (hy:Sl m.now sz a2 k cap2 ys) (h1:∀u∈ys,u.oneCell'=true) (hroom:n+k<=cap):
 (Builtin.append_ #[t,t] ty #[.slice (eG g) n cap,.slice a2 k cap2]).run P m.w=
  .ok (.slice (eG g) (n+k) cap) (match g with|none=>m.w|some b=>match a2 with|none=>m.w|some _=>m.w.setRow b (cur.toList.take (n*sz)++ys++cur.toList.drop (n*sz+ys.length)).toArray):=by
 obtain⟨i,hi,hz,hs,hb⟩:=info_parts hT.info
 cases g with
 |none=>
  have hc:=hnil rfl
  have hk:k=0:=by omega
  have hn:n=0:=by omega
  subst hc hk hn
  cases a2 with
  |none=>simp[Builtin.append_,run_underlying hT.fg,sizeOf,typeInfo,hi,Builtin.lenOf,Builtin.firstCells,eG]
  |some ad=>simp[Builtin.append_,run_underlying hT.fg,sizeOf,typeInfo,hi,Builtin.lenOf,Builtin.firstCells,eG,loadCells,loadCellsFrom]
 |some b=>
  cases a2 with
  |none=>
   have hc:=hy.2.2.2.1 rfl
   have hk:k=0:=by have:=hy.2.1;omega
   subst hk
   simp[Builtin.append_,run_underlying hT.fg,sizeOf,typeInfo,hi,Builtin.lenOf,Builtin.firstCells,eG,storeCells]
   omega
  |some ad=>
   have:=run_append_room (P:=P) m.w t ty e i hT.fg hi b n cap cur (hg b rfl) ad k cap2 ys (by rw[hs];exact hy.1) (fun j u hu=>by
    obtain⟨b',o,ha,_,hc⟩:=hy.2.2.2.2 j u hu;cases ha;rw[Addr.add_mid];exact hc) h1 hroom (by rw[hs,hcs (by simp),hy.1,<- aM];exact Nat.mul_le_mul_right _ hroom)
   rw[hs]at this
   exact this
theorem qM(hT:cV P t e z sz bytes)(a:Option Addr)(n cap:Nat)(xs:List Value)(hx:Sl m sz a n cap xs)
 (a2:Option Addr) (k cap2:Nat) (ys:List Value) (hy:Sl m.now sz a2 k cap2 ys) (h1:∀u∈ys,u.oneCell'=true) (hlen:(n+k)*bytes<=140737488355328) (h63:n+k<=maxLen) (hg:cap<n+k):
 ∃cap' cur,(Builtin.append_ #[t,t] ty #[.slice a n cap,.slice a2 k cap2]).run P m.w=.ok (.slice (some ⟨m.w.heap.size,0,none⟩) (n+k) cap') (m.w.drew.alloc (.cells cur e (0,0)))/\
  cur.size=cap'*sz/\n+k<=cap'/\cap'<=maxLen/\cur.toList.take ((n+k)*sz)=xs++ys:=by
 obtain⟨i,hi,hz,hs,hb⟩:=info_parts hT.info
 have h63':n+k<=9223372036854775807:=by unfold maxLen at h63;omega
 have hsrc:Src P i.size t (.slice a2 k cap2) k ys m.w:=by
  rw[hs]
  cases a2 with
  |none=>
   have hc:=hy.2.2.2.1 rfl
   have hm:k=0:=by have:=hy.2.1;omega
   subst hc hm
   have hye:ys=[]:=bq (by simpa using hy.1)
   subst hye
   exact Src.ofNil m.w hT.fg 0
  |some ad=>
   exact Src.ofSlice m.w hT.fg ad k cap2 ys hy.1 (fun j u hu=>by
    obtain⟨b,o,ha,_,hc⟩:=hy.2.2.2.2 j u hu;cases ha;rw[Addr.add_mid];exact hc) h1
 have hold:(Builtin.firstCells i.size n (.slice a n cap)).run P m.w.drew=.ok xs.toArray m.w.drew:=by
  rw[hs]
  cases a with
  |none=>
   have hc:=hx.2.2.2.1 rfl
   have hm:n=0:=by have:=hx.2.1;omega
   subst hc hm
   have hye:xs=[]:=bq (by simpa using hx.1)
   subst hye
   exact run_firstCells_none m.w.drew sz 0 0 0
  |some ad=>
   exact run_firstCells_some m.w.drew sz n ad n cap xs hx.1 (fun j u hu=>by
    obtain⟨b,o,ha,_,hc⟩:=hx.2.2.2.2 j u hu;cases ha;rw[Addr.add_mid];exact hc)
 have hr:=run_append_grow_src (P:=P) m.w t t ty e i z hT.fg hi hz a n cap xs hold _ k ys hsrc hg (by omega) (growslice_fits hg (by rw[hb];exact hlen))
 have hge:=grownCap_ge m.w (n+k) cap e
 have hcm:=grownCap_le_maxLen m.w (n+k) cap e h63
 refine⟨_,_,hr,?_,hge,hcm,?_⟩
 . simp only[Array.size_append,List.size_toArray,ay,size_zeroCells,hT.zs,hx.1,hy.1,<- aM]
   congr 1
   omega
 . simp only[Array.toList_append]
   rw[show(n+k)*sz=(xs++ys).length by rw[ay,hx.1,hy.1,aM]]
   exact List.take_left
end
abbrev rowOf{α:Type}(T:TypeId)(sz:Nat)(g:Option Nat)(cap:Nat)(l:List α):bM:=.row g T (cap*sz) (l.length*sz)
section
variable {B:List Nat}{m0 m:Mem}{L:List bM}{α:Type}{R:Mem->α->List Value->Prop}{P:Program}{t ty e:TypeId}{z:Value}{sz bytes:Nat}
theorem lf{css:List (List Value)}{l:List α}(hR:mh R sz)(h2:css.length=l.length)(h4:∀(i:Nat) (x:α) (cs:List Value),l[i]?=some x->css[i]?=some cs->cs.length=sz/\R m x cs):∀u∈css.flatten,u.oneCell'=true:=by
 intro u hu;obtain⟨cs,hcs,hu⟩:=List.mem_flatten.1 hu;obtain⟨i,hi⟩:=List.mem_iff_getElem?.1 hcs;have hil:i<css.length:=(List.getElem?_eq_some_iff.1 hi).1;exact hR.one (h4 i (l[i]'(by omega)) cs (by simp) hi).2 u hu
theorem sW{css dss:List (List Value)}{l l':List α}(h2:css.length=l.length)(h4:∀(i:Nat) (x:α) (cs:List Value),l[i]?=some x->css[i]?=some cs->cs.length=sz/\R m x cs)
 (k2:dss.length=l'.length) (k4:∀(i:Nat) (x:α) (cs:List Value),l'[i]?=some x->dss[i]?=some cs->cs.length=sz/\R m x cs):
 (css++dss).length=(l++l').length/\∀(i:Nat) (x:α) (cs:List Value),(l++l')[i]?=some x->(css++dss)[i]?=some cs->cs.length=sz/\R m x cs:=by
 refine⟨by simp[h2,k2],fun i x cs hx hc=>?_⟩
 by_cases hi:i<l.length
 . rw[List.getElem?_append_left hi]at hx
   rw[List.getElem?_append_left (by omega)]at hc
   exact h4 i x cs hx hc
 . rw[List.getElem?_append_right (by omega)]at hx
   rw[List.getElem?_append_right (by omega),h2]at hc
   exact k4 _ x cs hx hc
theorem Kk(hR:mh R sz){b cap:Nat}{l l':List α}(hS:St B m0 m (rowOf e sz (some b) cap l::L))(hx:dc R m sz (eG (some b)) cap l){dss:List (List Value)}(k2:dss.length=l'.length)
 (k4:∀(i:Nat) (x:α) (cs:List Value),l'[i]?=some x->dss[i]?=some cs->cs.length=sz/\R m x cs) (hyl:dss.flatten.length=l'.length*sz) (hroom:l.length+l'.length<=cap) {cur:Array Value} (hcur:m.w.heap[b]?=some (.cells cur e (0,0))) (hcs:cur.size=cap*sz):
 ∃m':Mem,m'.w=m.w.setRow b (cur.toList.take (l.length*sz)++dss.flatten++cur.toList.drop (l.length*sz+dss.flatten.length)).toArray/\Le m m'/\St B m0 m' (rowOf e sz (some b) cap (l++l')::L)/\dc R m' sz (eG (some b)) cap (l++l'):=by
 obtain⟨css,h1,h2,h4⟩:=hx
 obtain⟨f2,f4⟩:=sW h2 h4 k2 k4
 have hll:(l++l').length=l.length+l'.length:=by simp
 have hap:=hS.ow.apart (rowOf e sz (some b) cap l) (by simp) b (by simp[rowOf,bM.row])
 have hxl:css.flatten.length=l.length*sz:=h1.1
 have htake:cur.toList.take (l.length*sz)=css.flatten:=by
  apply List.ext_getElem?;intro j;by_cases hj:j<l.length*sz
  . rw[List.getElem?_take,if_pos hj];have hjl:j<css.flatten.length:=by omega
    obtain⟨b',o,ha,_,hc⟩:=h1.2.2.2.2 j _ (List.getElem?_eq_getElem hjl);cases ha;rw[cell_of_row _ _ _ _ _ _ hcur,aJ]at hc;rw[List.getElem?_eq_getElem hjl];simpa using hc
  . rw[List.getElem?_take,if_neg hj,List.getElem?_eq_none (by omega)]
 have hsum:l.length*sz+l'.length*sz<=cap*sz:=by rw[<- aM];exact Nat.mul_le_mul_right _ hroom
 have hclen:cur.toList.length=cap*sz:=by simpa using hcs
 generalize hnew:(cur.toList.take (l.length*sz)++dss.flatten++cur.toList.drop (l.length*sz+dss.flatten.length)).toArray=new
 have hnl:new.size=cap*sz:=by rw[<- hnew];simp only[List.size_toArray,ay,aH,ba];omega
 have hnt:new.toList.take ((l.length+l'.length)*sz)=css.flatten++dss.flatten:=by
  rw[<- hnew,htake];simp only[];rw[show(l.length+l'.length)*sz=(css.flatten++dss.flatten).length by rw[ay,hxl,hyl,aM]];exact List.take_left
 have hb':=setRow_heap m.w b cur new e (0,0) hcur
 have hlt:=jW hcur
 let X:Nat->Nat->Prop:=fun c o=>c=b/\o<(l++l').length*sz
 refine⟨⟨m.w.setRow b new,fun c o=>m.ok c o\/X c o⟩,rfl,?_,?_,?_⟩
 ·
  refine⟨rfl,rfl,rfl,by simp,fun c o hc=>⟨⟨.inl hc,by simpa using hc.2⟩,?_⟩⟩
  show(m.w.setRow b new).cell? _=_
  by_cases hcb:c=b
  . subst hcb
    have hlo:o<l.length*sz:=by
     refine bj fun hn=>?_
     exact hap o (by show l.length*sz<=o;omega) hc
    rw[cell_of_row _ _ _ _ _ _ hb',cell_of_row _ _ _ _ _ _ hcur]
    have e1:new.toList[o]?=(css.flatten)[o]?:=by
     have:(new.toList.take ((l.length+l'.length)*sz))[o]?=(css.flatten++dss.flatten)[o]?:=by rw[hnt]
     rw[List.getElem?_take,if_pos (by rw[aM];omega),List.getElem?_append_left (by omega)]at this;exact this
    have e2:cur.toList[o]?=(css.flatten)[o]?:=by
     rw[<- htake,List.getElem?_take,if_pos hlo]
    rw[<- Array.getElem?_toList,<- Array.getElem?_toList,e1,e2]
  . unfold World.cell?
    rw[setRow_other m.w b c new hcb]
 ·
  have k:St (bF [rowOf e sz (some b) cap l]) m ⟨m.w.setRow b new,fun c o=>m.ok c o\/X c o⟩ [rowOf e sz (some b) cap (l++l')]:=by
   refine⟨?_,fun c hc hn=>setRow_other m.w b c new (by simpa[rowOf,bM.row]using hn),fun c o hc=>?_,⟨by simp[rowOf,bM.row],fun x hx=>?_,fun x hx c hc o ho hm=>?_⟩,fun c hc=>?_⟩
   . refine⟨rfl,rfl,rfl,by simp,fun c o hc=>⟨⟨.inl hc,by simpa using hc.2⟩,?_⟩⟩;show(m.w.setRow b new).cell? _=_;by_cases hcb:c=b
     . subst hcb;have hlo:o<l.length*sz:=by
        refine bj fun hn=>?_
        exact hap o (by show l.length*sz<=o;omega) hc
       rw[cell_of_row _ _ _ _ _ _ hb',cell_of_row _ _ _ _ _ _ hcur];have e1:new.toList[o]?=(css.flatten)[o]?:=by
        have:(new.toList.take ((l.length+l'.length)*sz))[o]?=(css.flatten++dss.flatten)[o]?:=by rw[hnt]
        rw[List.getElem?_take,if_pos (by rw[aM];omega),List.getElem?_append_left (by omega)]at this;exact this
       have e2:cur.toList[o]?=(css.flatten)[o]?:=by
        rw[<- htake,List.getElem?_take,if_pos hlo]
       rw[<- Array.getElem?_toList,<- Array.getElem?_toList,e1,e2]
     . unfold World.cell?;rw[setRow_other m.w b c new hcb]
   . rcases hc.1 with h|h
     . exact .inl h
     . exact .inr (.inr (by simp[rowOf,bM.row,h.1]))
   . simp at hx;subst hx;intro c hc;cases hc;exact⟨new,hb',hnl⟩
   . simp at hx;subst hx;simp[rowOf,bM.row]at hc;subst hc;have ho':(l++l').length*sz<=o:=ho;rcases hm.1 with h|h
     . exact hap o (by show l.length*sz<=o;rw[hll,aM]at ho';omega) h
     . have h2:o<(l++l').length*sz:=h.2;omega
   . simp[rowOf,bM.row]at hc;subst hc;exact .inl (by simp[rowOf,bM.row])
  exact St.frame (L:=[rowOf e sz (some b) cap l]) hS k
 ·
  refine⟨css++dss,⟨?_,by simpa using hroom,h1.2.2.1,(fun h=>by cases h),fun j v hv=>⟨b,0,rfl,⟨.inr ⟨rfl,?_⟩,by simpa using hlt⟩,?_⟩⟩,f2,fun i x cs hx hc=>⟨(f4 i x cs hx hc).1,?_⟩⟩
  . simp only[bc,ay,hxl,hyl,aM]
  . have:j<(css++dss).flatten.length:=(List.getElem?_eq_some_iff.1 hv).1
    simp only[bc,ay]at this
    rw[hll,aM];omega
  . rw[cell_of_row _ _ _ _ _ _ hb',aJ,<- Array.getElem?_toList]
    have hjl:j<(css++dss).flatten.length:=(List.getElem?_eq_some_iff.1 hv).1
    simp only[bc,ay]at hjl
    have:(new.toList.take ((l.length+l'.length)*sz))[j]?=(css.flatten++dss.flatten)[j]?:=by rw[hnt]
    rw[List.getElem?_take,if_pos (by rw[aM];omega)]at this
    rw[this,<- bc];exact hv
  . refine hR.mono (f4 i x cs hx hc).2 ?_
    refine⟨rfl,rfl,rfl,by simp,fun c o hc=>⟨⟨.inl hc,by simpa using hc.2⟩,?_⟩⟩
    show(m.w.setRow b new).cell? _=_
    by_cases hcb:c=b
    . subst hcb
      have hlo:o<l.length*sz:=by
       refine bj fun hn=>?_
       exact hap o (by show l.length*sz<=o;omega) hc
      rw[cell_of_row _ _ _ _ _ _ hb',cell_of_row _ _ _ _ _ _ hcur]
      have e1:new.toList[o]?=(css.flatten)[o]?:=by
       have:(new.toList.take ((l.length+l'.length)*sz))[o]?=(css.flatten++dss.flatten)[o]?:=by rw[hnt]
       rw[List.getElem?_take,if_pos (by rw[aM];omega),List.getElem?_append_left (by omega)]at this;exact this
      have e2:cur.toList[o]?=(css.flatten)[o]?:=by
       rw[<- htake,List.getElem?_take,if_pos hlo]
      rw[<- Array.getElem?_toList,<- Array.getElem?_toList,e1,e2]
    . unfold World.cell?
      rw[setRow_other m.w b c new hcb]
theorem yL(hT:cV P t e z sz bytes)(hR:mh R sz){g:Option Nat}{cap:Nat}{l l':List α}(hS:St B m0 m (rowOf e sz g cap l::L))(hx:dc R m sz (eG g) cap l)
 {a2:Option Addr} {cap2:Nat} (hy:MU R m sz a2 cap2 l') (hroom:l.length+l'.length<=cap):
 ∃m',(Builtin.append_ #[t,t] ty #[.slice (eG g) l.length cap,.slice a2 l'.length cap2]).run P m.w=.ok (.slice (eG g) (l++l').length cap) m'.w/\
  Le m m'/\St B m0 m' (rowOf e sz g cap (l++l')::L)/\dc R m' sz (eG g) cap (l++l'):=by
 obtain⟨css,h1,h2,h4⟩:=hx
 obtain⟨dss,k1,k2,k4⟩:=hy
 have hone:=lf hR k2 k4
 cases g with
 |none=>
  have hc:=h1.2.2.2.1 rfl
  have e1:l=[]:=bq (by omega)
  have e2:l'=[]:=bq (by omega)
  subst e1 e2 hc
  have:=sF (P:=P) (ty:=ty) hT none 0 0 #[] (fun b h=>by cases h) (fun h=>absurd rfl h) (fun _=>rfl) a2 0 cap2 _ k1 hone (by simp)
  exact⟨m,by simpa using this,Le.refl m,by simpa using hS,⟨css,h1,h2,h4⟩⟩
 |some b=>
  have hent:=hS.ow.ok (rowOf e sz (some b) cap l) (by simp)
  obtain⟨cur,hcur,hcs⟩:=hent b rfl
  have hrun:=sF (P:=P) (ty:=ty) hT (some b) l.length cap cur (fun c h=>by cases h;exact hcur) (fun _=>hcs) (fun h=>by cases h) a2 l'.length cap2 _ k1 hone hroom
  cases a2 with
  |none=>
   have hc:=k1.2.2.2.1 rfl
   have e2:l'=[]:=bq (by have:=k1.2.1;omega)
   subst e2
   have hE:dc R m sz (eG (some b)) cap (l++[]):=by rw[aU];exact⟨css,h1,h2,h4⟩
   exact⟨m,by simpa using hrun,Le.refl m,by simpa using hS,hE⟩
  |some ad=>
   obtain⟨m',r1,r2,r3,r4⟩:=Kk hR hS ⟨css,h1,h2,h4⟩ k2 k4 k1.1 hroom hcur hcs
   exact⟨m',by rw[r1];simpa using hrun,r2,r3,r4⟩
theorem Ll(hT:cV P t e z sz bytes)(hR:mh R sz){g:Option Nat}{cap:Nat}{l l':List α}(hS:St B m0 m (rowOf e sz g cap l::L))(hx:dc R m sz (eG g) cap l)
 {a2:Option Addr} {cap2:Nat} (hy:dc R m sz a2 cap2 l') (hroom:l.length+l'.length<=cap):
 ∃m',(Builtin.append_ #[t,t] ty #[.slice (eG g) l.length cap,.slice a2 l'.length cap2]).run P m.w=.ok (.slice (eG g) (l++l').length cap) m'.w/\
  Le m m'/\St B m0 m' (rowOf e sz g cap (l++l')::L)/\dc R m' sz (eG g) cap (l++l'):=yL hT hR hS hx hy.src hroom
theorem yN(hT:cV P t e z sz bytes)(hR:mh R sz){g:Option Nat}{cap:Nat}{l l':List α}(hS:St B m0 m (rowOf e sz g cap l::L))(hx:dc R m sz (eG g) cap l)
 {a2:Option Addr} {cap2:Nat} (hy:dc R m sz a2 cap2 l') (hlen:(l.length+l'.length)*bytes<=140737488355328) (h63:l.length+l'.length<=maxLen):
 ∃g' cap' m',(Builtin.append_ #[t,t] ty #[.slice (eG g) l.length cap,.slice a2 l'.length cap2]).run P m.w=.ok (.slice (eG g') (l++l').length cap') m'.w/\
  Le m m'/\St B m0 m' (rowOf e sz g' cap' (l++l')::L)/\dc R m' sz (eG g') cap' (l++l'):=by
 obtain⟨css,h1,h2,h4⟩:=hx
 obtain⟨dss,k1,k2,k4⟩:=hy
 have hone:=lf hR k2 k4
 obtain⟨f2,f4⟩:=sW h2 h4 k2 k4
 have hll:(l++l').length=l.length+l'.length:=by simp
 have hcl:=dc.lens f2 f4
 by_cases hroom:l.length+l'.length<=cap
 . obtain⟨m',r1,r2,r3,r4⟩:=Ll (ty:=ty) hT hR hS ⟨css,h1,h2,h4⟩ ⟨dss,k1,k2,k4⟩ hroom
   exact⟨g,cap,m',r1,r2,r3,r4⟩
 ·
  obtain⟨cap',cur,hrun,hcs,hge,hcm,htake⟩:=qM (P:=P) (ty:=ty) hT (eG g) l.length cap _ h1 a2 l'.length cap2 _ k1.all hone hlen h63 (by omega)
  have hS1:=hS.drop
  have hg:Below m.w.heap.size m.w (m.w.drew.alloc (.cells cur e (0,0))):=((Below.refl _ _).drew).alloc (Nat.le_refl _) _
  have hb':(m.w.drew.alloc (.cells cur e (0,0))).heap[m.w.heap.size]?=some (.cells cur e (0,0)):=heap_alloc_new m.w.drew _
  let X:Nat->Nat->Prop:=fun c o=>c=m.w.heap.size/\o<(l++l').length*sz
  have hle:Le m ⟨m.w.drew.alloc (.cells cur e (0,0)),fun c o=>m.ok c o\/X c o⟩:=
   ⟨rfl,rfl,rfl,Below.size hg,fun c o hc=>⟨⟨.inl hc,Nat.lt_of_lt_of_le hc.2 (Below.size hg)⟩,rE hg hc.2⟩⟩
  have k:St [] m ⟨m.w.drew.alloc (.cells cur e (0,0)),fun c o=>m.ok c o\/X c o⟩ [rowOf e sz (some m.w.heap.size) cap' (l++l')]:=by
   refine⟨hle,fun c hc _=>Below.block hg c hc,fun c o hc=>?_,⟨by simp[rowOf,bM.row],fun x hx=>?_,fun x hx c hc o ho hm=>?_⟩,fun c hc=>?_⟩
   . rcases hc.1 with h|h
     . exact .inl h
     . exact .inr (.inl (by rw[h.1];exact Nat.le_refl _))
   . simp at hx;subst hx;intro c hc;cases hc;exact⟨cur,hb',hcs⟩
   . simp at hx;subst hx;simp[rowOf,bM.row]at hc;subst hc;have ho':(l++l').length*sz<=o:=ho;rcases hm.1 with h|h
     . exact absurd h.2 (by simp)
     . have h2:o<(l++l').length*sz:=h.2;omega
   . simp[rowOf,bM.row]at hc;subst hc;exact .inr (Nat.le_refl _)
  refine⟨some m.w.heap.size,cap',_,by simpa using hrun,hle,hS1.call k,?_⟩
  refine⟨css++dss,⟨?_,by simpa using hge,hcm,(fun h=>by cases h),fun j v hv=>⟨m.w.heap.size,0,rfl,⟨.inr ⟨rfl,?_⟩,by simp⟩,?_⟩⟩,f2,fun i x cs hx hc=>⟨(f4 i x cs hx hc).1,hR.mono (f4 i x cs hx hc).2 hle⟩⟩
  . simp only[bc,ay,h1.1,k1.1,aM]
  . have:j<(css++dss).flatten.length:=(List.getElem?_eq_some_iff.1 hv).1
    simp only[bc,ay,h1.1,k1.1]at this
    rw[hll,aM];omega
  . show(m.w.drew.alloc (.cells cur e (0,0))).cell? _=_
    rw[cell_of_row _ _ _ _ _ _ hb',aJ,<- Array.getElem?_toList]
    have hjl:j<(css++dss).flatten.length:=(List.getElem?_eq_some_iff.1 hv).1
    simp only[bc,ay,h1.1,k1.1]at hjl
    have:(cur.toList.take ((l.length+l'.length)*sz))[j]?=(css.flatten++dss.flatten)[j]?:=by rw[htake]
    rw[List.getElem?_take,if_pos (by rw[aM];omega)]at this
    rw[this,<- bc];exact hv
end
end
section
open Go.RowKit G
theorem ko{d t:Nat}(e:¬ d=t):Nat.beq d t=false:=by
 cases h:Nat.beq d t with
 |true=>exact absurd (ah h) e
 |false=>rfl
theorem Hr{p:Nat->Prop}:∀k,p k->∃j,p j/\∀i,p i->j<=i:=by
 intro k
 induction k using Nat.strongRecOn with
 |_ k ih=>
  intro hk
  by_cases h:∃j,j<k/\p j
  . obtain⟨j,hj,hp⟩:=h;exact ih j hj hp
  . exact⟨k,hk,fun i hi=>Nat.le_of_not_lt fun hlt=>h ⟨i,hlt,hi⟩⟩
abbrev Kt:=List (Nat×Value)
def lk:Kt->Nat->Option Value
 |[],_=>none
 |(s,v)::K,t=>match Nat.beq s t with|true=>some v|false=>lk K t
def fu(K:Kt):Operand->Option Value
 |.tmp t=>lk K t
 |.const v=>some v
 |.global g=>some (.pointer (some ⟨g,0,none⟩))
 |.func f=>some (.func (.func f) #[] #[])
def Ke(a:Act)(K:Kt):Prop:=∀t v,lk K t=some v->a.eval (.tmp t)=v
theorem Ke.nil(a:Act):Ke a []:=fun t v h=>by simp[lk]at h
theorem Ke.cons{a:Act}{K:Kt}{t:Nat}{v:Value}(h:a.eval (.tmp t)=v)(hK:Ke a K):Ke a ((t,v)::K):=fun s u hu=>by
 unfold lk at hu;by_cases e:t=s
 . subst e;simp at hu;subst hu;exact h
 . rw[ko e]at hu;exact hK s u hu
theorem Ke.ev{a:Act}{K:Kt}(h:Ke a K){x:Operand}{v:Value}(hx:fu K x=some v):a.eval x=v:=by
 cases x with
 |tmp t=>exact h t v hx
 |const c=>simp[fu]at hx;exact hx
 |global g=>simp[fu]at hx;exact hx
 |func f=>simp[fu]at hx;exact hx
def FW(r:Option Nat):Fence:={fn:=fun _=>True,depth:=none,alive:=false,round:=r}
structure Kn(n:Nat)(a:Act)(K:Kt)(ds:List Deferred:=[]):Prop where
 size:a.tmps.size=n
 defers:a.defers=ds
 at_:Ke a K
section
variable {n:Nat}{a:Act}{K K':Kt}{ds:List Deferred}
theorem Kn.ev(h:Kn n a K ds){x:Operand}{v:Value}(hx:fu K x=some v):a.eval x=v:=h.at_.ev hx
theorem Kn.put(h:Kn n a K ds){d:Nat}(v:Value)(hd:d<n):Kn n (a.put (some d) v) ((d,v)::K) ds:=by
 refine⟨by simp[Act.put,h.size],h.defers,fun t u hu=>?_⟩;unfold lk at hu;by_cases e:d=t
 . subst e;simp at hu;subst hu;simp[Act.put,Act.eval,Array.getD,h.size,hd]
 . have:Nat.beq d t=false:=ko e;rw[this]at hu;rw[Act.eval_put (fun d' hd' e'=>by cases hd';cases e';exact e rfl)];exact h.at_ t u hu
def only(K:Kt):List Nat->Kt
 |[]=>[]
 |t::ts=>match lk K t with|some v=>(t,v)::only K ts|none=>only K ts
end
def nU(P:Program)(bP:Value->World->Prop):Result Next->Prop
 |.ok (.value v) w'=>bP v w'
 |.ok .skip w'=>bP undef w'
 |.ok (.enter f args) w'=>Calls P f args w' fun e w''=>∃v,e=.returned v/\bP v w''
 |.ok (.round l f tmps fm body) w'=>RoundIn (FW none) 0 P l f tmps fm body w' fun e w''=>∃v,e=.returned v/\bP v w''
 |_=>False
def bC(P:Program)(o:Oper)(a:Act)(w:World)(bP:Value->World->Prop):Prop:=nU P bP ((execOp a.eval o).run P w)
theorem bC.OO{P:Program}{o:Oper}{a:Act}{w:World}{bP:Value->World->Prop}(h:bC P o a w bP):∀c,o.op≠ .defer c:=by
 intro c hc;unfold bC execOp at h;simp only[hc,Sem.run_bind]at h;generalize (resolve a.eval c o.type).run P w=r at h;cases r<;>simp[Result.andThen,Sem.run_pure,nU]at h
theorem E2{P:Program}{f:FuncId}{args:Array Value}{w:World}{R:Ending->World->Prop}(r:Option Nat)(h:Calls P f args w R):CallsIn (FW r) 0 P f args w R:=
 ⟨trivial,fun cs _=>let⟨e,w',fr,hr,s,x⟩:=h cs;⟨e,w',fr,hr,comesIn_wide.2 s,x⟩⟩
theorem Pj{P:Program}{l:Nat}{f:FuncId}{tmps:Array Value}{fm body:Code}{w:World}{R:Ending->World->Prop}(r:Option Nat)(h:RoundIn (FW none) 0 P l f tmps fm body w R):RoundIn (FW r) 0 P l f tmps fm body w R:=h
theorem bC.wp{P:Program}{o:Oper}{a:Act}{w:World}{bP:Value->World->Prop}{K:Act->World->Prop}{Q:Exit->Act->World->Prop}{rr:Option Nat}
 (h:bC P o a w bP) (hK:∀v w',bP v w'->K (a.put o.dst v) w'):o.wpIn (FW rr) 0 P a w K Q:=by
 have hd:=h.OO
 unfold bC at h
 unfold Oper.wpIn
 refine⟨fun _ _=>trivial,?_⟩
 rw[Oper.semAt_eq _ _ _ hd]
 generalize (execOp a.eval o).run P w=r at*
 cases r with
 |ok n w'=>
  cases n<;>simp only[nU]at h<;>simp only[Oper.uponIn]
  case value v=>exact hK _ _ h
  case skip=>exact hK _ _ h
  case enter f args=>exact⟨fun h=>by simp[FW]at h,E2 rr (h.mono fun e w'' ⟨v,he,h1⟩=>by subst he;exact hK _ _ h1)⟩
  case round l f tmps fm body=>exact⟨fun h=>by simp[FW]at h,Pj rr (h.mono fun e w'' ⟨v,he,h1⟩=>by subst he;exact hK _ _ h1)⟩
 |halt x w'=>simp only[nU]at h
theorem bC.mono{P:Program}{o:Oper}{a:Act}{w:World}{bP Post':Value->World->Prop}(h:bC P o a w bP)(hq:∀v w',bP v w'->Post' v w'):bC P o a w Post':=by
 unfold bC at*
 generalize (execOp a.eval o).run P w=r at*
 cases r with
 |ok n w'=>
  cases n<;>simp only[nU]at h ⊢
  case value v=>exact hq _ _ h
  case skip=>exact hq _ _ h
  case enter f args=>exact h.mono fun e w'' ⟨v,he,h1⟩=>⟨v,he,hq _ _ h1⟩
  case round l f tmps fm body=>exact h.mono fun e w'' ⟨v,he,h1⟩=>⟨v,he,hq _ _ h1⟩
 |halt x w'=>simp only[nU]at h
def pD(ops:Array Oper)(j:Nat):Option Nat:=(ops[j]?).bind (·.dst)
def qx(ops:Array Oper)(K:Kt):Option (Nat×Bool)->Bool
 |none=>true
 |some (j,b)=>match pD ops j with
  |some t=>match lk K t with
   |some (.bool c)=>c == b
   |_=>false
  |none=>false
def oU(ops:Array Oper)(K:Kt):Option (Nat×Bool)->Bool
 |none=>false
 |some (j,b)=>match pD ops j with
  |some t=>match lk K t with
   |some (.bool c)=>c !=b
   |some (.tuple _)=>true
   |_=>false
  |none=>false
section
variable {P:Program}{ops:Array Oper}{o:Oper}{n:Nat}{a:Act}{K:Kt}{ds:List Deferred}{w:World}{rest:List Oper}{Q:Exit->Act->World->Prop}{rr:Option Nat}
theorem KC{t:Nat}{v:Value}(hv:a.eval (.tmp t)=v)(hu:v≠undef):a.tmps[t]?=some v:=by
 simp only[Act.eval,Array.getD_eq_getD_getElem?]at hv
 cases hq:a.tmps[t]? with
 |none=>rw[hq]at hv;exact absurd hv.symm hu
 |some u=>rw[hq]at hv;simpa using hv
theorem wM(hK:Kn n a K ds)(h:qx ops K o.guard=true):Region.wanted o (yielded ops a.tmps)=true:=by
 unfold qx at h
 cases hg:o.guard with
 |none=>simp[Region.wanted,hg]
 |some p=>
  obtain⟨j,b⟩:=p
  rw[hg]at h
  simp only at h
  cases hs:pD ops j with
  |none=>rw[hs]at h;cases h
  |some t=>
   rw[hs]at h
   simp only at h
   cases hl:lk K t with
   |none=>rw[hl]at h;cases h
   |some v=>
    rw[hl]at h
    cases v<;>simp only[aN]at h
    rename_i c
    have hcb:c=b:=by simpa using h
    subst hcb
    have ht:=KC (hK.at_ t _ hl) (by simp[undef])
    unfold pD at hs
    simp[Region.wanted,hg,yielded,hs,ht]
theorem kh(hK:Kn n a K ds)(h:oU ops K o.guard=true):Region.wanted o (yielded ops a.tmps)=false:=by
 unfold oU at h
 cases hg:o.guard with
 |none=>rw[hg]at h;cases h
 |some p=>
  obtain⟨j,b⟩:=p
  rw[hg]at h
  simp only at h
  cases hs:pD ops j with
  |none=>rw[hs]at h;cases h
  |some t=>
   rw[hs]at h
   simp only at h
   cases hl:lk K t with
   |none=>rw[hl]at h;cases h
   |some v=>
    rw[hl]at h
    have hv:=hK.at_ t _ hl
    unfold pD at hs
    cases v<;>simp only[aN]at h
    . rename_i c
      have ht:=KC hv (by simp[undef])
      have hcb:c≠b:=by simpa using h
      simp[Region.wanted,hg,yielded,hs,ht,hcb]
    . rename_i vs
      have ht:∀c,a.tmps[t]?≠some (.bool c):=by
       intro c hc;simp[Act.eval,hc]at hv
      simp only[Region.wanted,hg,yielded,hs,ae]
      cases hq:a.tmps[t]? with
      |none=>rfl
      |some u=>cases u<;>first|rfl|(exact absurd hq (ht _))
def Vm(ops:Array Oper)(o:Oper)(K:Kt)(n d:Nat):Bool:=qx ops K o.guard&&decide (o.dst=some d)&&decide (d<n)
def HZ(ops:Array Oper)(o:Oper)(K:Kt)(n d:Nat):Bool:=oU ops K o.guard&&decide (o.dst=some d)&&decide (d<n)
theorem Yj(d:Nat)(hK:Kn n a K ds)(hc:Vm ops o K n d=true)(h:bC P o a w fun v w'=>∀a',Kn n a' ((d,v)::K) ds->wpListIn (FW rr) 0 P ops Q rest a' w'):wpListIn (FW rr) 0 P ops Q (o::rest) a w:=by
 simp only[Vm,al,aR]at hc;obtain⟨⟨h1,h2⟩,h3⟩:=hc;unfold wpListIn;rw[if_pos (wM hK h1)];exact h.wp fun v w' hp=>hp _ (by rw[h2];exact hK.put v h3)
theorem VE(d:Nat)(hK:Kn n a K ds)(hc:HZ ops o K n d=true)(h:∀a',Kn n a' ((d,undef)::K) ds->wpListIn (FW rr) 0 P ops Q rest a' w):wpListIn (FW rr) 0 P ops Q (o::rest) a w:=by
 simp only[HZ,al,aR]at hc;obtain⟨⟨h1,h2⟩,h3⟩:=hc;unfold wpListIn;rw[if_neg (by rw[kh hK h1];simp)];exact⟨fun _ _=>trivial,h _ (by rw[h2];exact hK.put undef h3)⟩
end
section
variable {P:Program}{Q:Exit->Act->World->Prop}{rr:Option Nat}{n:Nat}{a:Act}{K:Kt}{ds:List Deferred}{w:World}
theorem GJ{x y:Code}(h:x.wpIn (FW rr) 0 P (Exit.then (y.wpIn (FW rr) 0 P Q) Q) a w):(x.seq y).wpIn (FW rr) 0 P Q a w:=wpIn_seq h
theorem A7{id:Nat}{ops:Array Oper}(h:wpListIn (FW rr) 0 P ops Q ops.toList a w):(Code.region id ops false).wpIn (FW rr) 0 P Q a w:=wpIn_region_list h
theorem wI{next:Act->World->Prop}(h:next a w):Exit.then next Q .normal a w:=h
theorem P2{next:Act->World->Prop}{i:Nat}(h:Q (.exit i) a w):Exit.then next Q (.exit i) a w:=h
theorem Wh{i:Nat}(h:Q .normal a w):Exit.inBlock i Q (.exit i) a w:=by show(if i=i then _ else _);rw[if_pos rfl];exact h
theorem Wi{i j:Nat}(hne:j≠i)(h:Q (.exit j) a w):Exit.inBlock i Q (.exit j) a w:=by show(if j=i then _ else _);rw[if_neg hne];exact h
theorem P9{c:Code}(I:Nat->Act->World->Prop)(h0:∃k0,I k0 a w)(round:∀k a w,I k a w->c.wpIn (FW rr) 0 P (Exit.then (fun a' w'=>∃k',k'<k/\I k' a' w') Q) a w):(Code.loop c).wpIn (FW rr) 0 P Q a w:=by
 have hmin:∀a w,(∃k,I k a w)->∃j,I j a w/\∀i,I i a w->j<=i:=fun a w ⟨k,hk⟩=>Hr k hk
 refine wpIn_loop (fun a w=>∃k,I k a w) (fun a w=>Classical.epsilon fun j=>I j a w/\∀i,I i a w->j<=i) h0 fun a w hI=>?_
 have hm:=Classical.epsilon_spec (hmin a w hI);refine wpIn_mono (round _ a w hm.1) fun e a' w' hq=>?_
 cases e with
 |normal=>
  obtain⟨k',hlt,hk⟩:=hq
  exact⟨⟨k',hk⟩,Nat.lt_of_le_of_lt ((Classical.epsilon_spec (hmin a' w' ⟨k',hk⟩)).2 k' hk) hlt⟩
 |exit i=>exact hq
 |goto l=>exact hq
 |ret=>exact hq
 |panic c=>exact hq
 |outgrown=>exact hq
end
def tR:Nat->List Value->Kt
 |_,[]=>[]
 |i,v::vs=>(i,v)::tR (i+1) vs
theorem FL:∀(vs:List Value) (i t:Nat) (v:Value),lk (tR i vs) t=some v->i<=t/\vs[t-i]?=some v
 |[],_,_,_,h=>by simp[tR,lk]at h
 |u::vs,i,t,v,h=>by
  unfold tR lk at h;by_cases e:i=t
  . subst e;simp at h;subst h;simp
  . have hb:Nat.beq i t=false:=ko e;rw[hb]at h;obtain⟨h1,h2⟩:=FL vs (i+1) t v h;refine⟨by omega,?_⟩;rw[show t-i=(t-(i+1))+1 by omega];simpa using h2
def zA(P:Program)(fn:Func)(m:Mem)(L:List bM)(Q:Value->Mem->List bM->Prop):Exit->Act->World->Prop:=
 bodyPostM (FW none) 0 P fn fun e w'=>∃v m' L',e=.returned v/\m'.w=w'/\St (bF L) m m' L'/\Q v m' L'
theorem Oq{fn:Func}{args:List Value}(n:Nat)(hn:fn.ntmps=n)(hle:args.length<=n):Kn n {tmps:=args.toArray++Array.replicate (fn.ntmps-args.toArray.size) undef,defers:=[]} (tR 0 args):=by
 refine⟨by simp[hn];omega,rfl,fun t v hv=>?_⟩;obtain⟨_,h2⟩:=FL args 0 t v hv;have ht:t<args.length:=(List.getElem?_eq_some_iff.1 h2).1;simp only[Act.eval,Array.getD_eq_getD_getElem?];rw[Array.getElem?_append_left (by simpa using ht)];simpa using congrArg (Option.getD · undef) h2
theorem enter{P:Program}{f:FuncId}{fn:Func}{c:Code}{args:List Value}{m:Mem}{L:List bM}{Q:Value->Mem->List bM->Prop}(n:Nat)(hf:P.funcs[f]?=some fn)(hb:fn.body=some c)
 (hn:fn.ntmps=n) (hle:args.length<=n) (h:∀a,Kn n a (tR 0 args)->c.wpIn (FW none) 0 P (zA P fn m L Q) a m.w):Spec P f args.toArray m L Q:=
 callsIn_wide.1 (callsIn_of_wp_marks (F:=FW none) (n:=0) hf hb trivial (h _ (Oq n hn hle)) rfl)
def sZ(d:TypeDesc):Bool:=match d with| .struct _| .array _ _=>true|_=>false
def eA(P:Program)(t:TypeId):Option (Bool×Nat):=match P.underlying t,P.info? t with|some d,some i=>some (sZ d,i.size)|_,_=>none
theorem gK{P:Program}{t:TypeId}{b:Bool}{s:Nat}(h:eA P t=some (b,s)):∃d i,P.underlying t=some d/\P.info? t=some i/\sZ d=b/\i.size=s:=by
 unfold eA at h
 cases hu:P.underlying t with
 |none=>simp[hu]at h
 |some d=>
  cases hi:P.info? t with
  |none=>simp[hu,hi]at h
  |some i=>simp[hu,hi]at h;exact⟨d,i,rfl,rfl,h.1,h.2⟩
section
variable {P:Program}{w:World}{t:TypeId}
theorem jf{d:TypeDesc}(hu:P.underlying t=some d):(isAgg t).run P w=.ok (sZ d) w:=by
 unfold isAgg;rw[Sem.run_bind,run_underlying hu];cases d<;>rfl
theorem rQ{b o:Nat}{v:Value}{s:Nat}(hT:eA P t=some (false,s))(hc:w.cell? ⟨b,o,none⟩=some v):(loadVar t ⟨b,o,none⟩).run P w=.ok v w:=by
 obtain⟨d,i,hu,hi,hd,hs⟩:=gK hT;simp[loadVar,jf hu,hd,hc]
theorem wu{b o:Nat}{cs:List Value}(hT:eA P t=some (true,cs.length))(hc:∀k v,cs[k]?=some v->w.cell? ⟨b,o+k,none⟩=some v):(loadVar t ⟨b,o,none⟩).run P w=.ok (.agg cs.toArray) w:=by
 obtain⟨d,i,hu,hi,hd,hs⟩:=gK hT;have:=run_loadCells_list (P:=P) w ⟨b,o,none⟩ cs (fun j v hv=>by rw[Addr.add_mid];exact hc j v hv);simp[loadVar,jf hu,hd,sizeOf,typeInfo,hi,hs,this]
end
inductive yG(P:Program)(K:Kt)(w:World):List ResultVar->List Value->Prop
 |nil:yG P K w [] []
 |tmp {t:Nat} {v:Value} {rs:List ResultVar} {vs:List Value}:lk K t=some v->yG P K w rs vs->yG P K w (.tmp t::rs) (v::vs)
 |one {p:Nat} {T:TypeId} {s b o:Nat} {v:Value} {rs:List ResultVar} {vs:List Value}:eA P T=some (false,s)->lk K p=some (.pointer (some ⟨b,o,none⟩))->w.cell? ⟨b,o,none⟩=some v->yG P K w rs vs->yG P K w (.cell p T::rs) (v::vs)
 |agg {p:Nat} {T:TypeId} {b o:Nat} {cs:List Value} {rs:List ResultVar} {vs:List Value}:eA P T=some (true,cs.length)->lk K p=some (.pointer (some ⟨b,o,none⟩))->(∀k v,cs[k]?=some v->w.cell? ⟨b,o+k,none⟩=some v)->
  yG P K w rs vs->yG P K w (.cell p T::rs) (.agg cs.toArray::vs)
def xo:List Value->Value
 |[v]=>v
 |vs=>.tuple vs.toArray
section
variable {P:Program}{n:Nat}{a:Act}{K:Kt}{ds:List Deferred}{w:World}
theorem tw(x:Addr):(asAddr (.pointer (some x))).run P w=.ok x w:=rfl
theorem Po(hK:Kn n a K ds)(f:ResultVar->Sem Value)(hf1:∀t,f (.tmp t)=pure (a.tmps.getD t undef))(hf2:∀p t,f (.cell p t)=(do loadVar t (<- asAddr (a.tmps.getD p undef)))):
 ∀(rs:List ResultVar) (vs:List Value),yG P K w rs vs->(rs.mapM f).run P w=.ok vs w:=by
 intro rs vs h
 induction h with
 |nil=>simp
 |tmp hl _ ih=>
  have:=hK.at_ _ _ hl
  simp only[Act.eval]at this
  simp only[List.mapM_cons,hf1,hf2,Sem.run_bind,Sem.run_pure,Result.andThen_ok,this,ih]
 |one hT hp hc _ ih=>
  have:=hK.at_ _ _ hp
  simp only[Act.eval]at this
  simp only[List.mapM_cons,hf1,hf2,Sem.run_bind,Sem.run_pure,Result.andThen_ok,this,tw,rQ hT hc,ih]
 |agg hT hp hc _ ih=>
  have:=hK.at_ _ _ hp
  simp only[Act.eval]at this
  simp only[List.mapM_cons,hf1,hf2,Sem.run_bind,Sem.run_pure,Result.andThen_ok,this,tw,wu hT hc,ih]
theorem Gj{fn:Func}{rs:List ResultVar}{vs:List Value}(hr:fn.results=rs.toArray)(hK:Kn n a K ds)(h:yG P K w rs vs):(results fn a.tmps).run P w=.ok (xo vs) w:=by
 have h1:=fun f h1 h2=>Po (P:=P) (w:=w) hK f h1 h2 rs vs h
 have hm:∀x:Sem (List Value),(List.toArray <$> x:Sem (Array Value))=x >>= fun l=>pure l.toArray:=fun _=>rfl
 unfold results;rw[hr,List.mapM_toArray,hm];simp only[Sem.run_bind,Sem.run_pure];rw[h1 _ (fun _=>rfl) (fun _ _=>rfl)];simp only[Result.andThen_ok,Sem.run_pure];congr 1
 match vs with
 |[]=>rfl
 |[v]=>rfl
 |v::u::r=>simp[xo]
theorem VF{fn:Func}{m m':Mem}{L L':List bM}{Q:Value->Mem->List bM->Prop}(rs:List ResultVar)(vs:List Value)(hr:fn.results=rs.toArray)(hK:Kn n a K)(h:yG P K m'.w rs vs)(hS:St (bF L) m m' L')(hq:Q (xo vs) m' L'):
 zA P fn m L Q .ret a m'.w:=by
 show LeavesInM _ _ _ _ _ _ a.defers _ _
 rw[hK.defers]
 exact⟨xo vs,Gj hr hK h,xo vs,m',L',rfl,rfl,hS,hq⟩
end
section
variable {P:Program}{o:Oper}{n:Nat}{a:Act}{K:Kt}{ds:List Deferred}{B:List Nat}{m0 m:Mem}{L:List bM}{bP:Value->World->Prop}{x y:Operand}{t:TypeId}
theorem yU{b i:Nat}{cs:Array Value}{T:TypeId}(hS:St B m0 m L)(k:Nat)(hk:L[k]?=some (.box b cs T)):m.w.cell? ⟨b,i,none⟩=cs[i]?:=
 cell_of_row _ _ _ _ _ _ (hS.yS k hk)
theorem Xv{v:Value}(hK:Ke a K)(hS:St B m0 m L)(ho:o.op=.box t x)(hx:fu K x=some v)
 (hp:∀m' b,m.w.heap.size<=b->Le m m'->St B m0 m' (.box b v.cells t::L)->bP (.pointer (some ⟨b,0,none⟩)) m'.w):bC P o a m.w bP:=by
 unfold bC execOp
 simp only[ho,hK.ev hx,Instr.box,newVar,newRow,newObj,Sem.run_bind,Sem.run_pure,Result.andThen_ok,Sem.run]
 have h:=hS.vZ v.cells t
 exact hp _ _ (Nat.le_refl _) (St.new (St.refl (Ow.nil m)) rfl (.box m.w.heap.size v.cells t) rfl (dy _ _)).le h
theorem kb{z:Value}{w:World}(hz:(P.info? t).map (·.zero)=some (some z)):(zeroValue t).run P w=.ok z w:=by
 cases hi:P.info? t with
 |none=>simp[hi]at hz
 |some i=>
  have hz:i.zero=some z:=by simpa[hi]using hz
  simp[zeroValue,typeInfo,hi,hz]
theorem SV(z:Value)(hK:Ke a K)(hS:St B m0 m L)(ho:o.op=.alloc t)(hz:(P.info? t).map (·.zero)=some (some z))
 (hp:∀m' b,m.w.heap.size<=b->Le m m'->St B m0 m' (.box b z.cells t::L)->bP (.pointer (some ⟨b,0,none⟩)) m'.w):bC P o a m.w bP:=by
 unfold bC execOp
 simp only[ho,Instr.alloc,newVar,newRow,newObj,Sem.run_bind,Sem.run_pure,Result.andThen_ok,kb hz,Sem.run]
 have h:=hS.vZ z.cells t
 exact hp _ _ (Nat.le_refl _) (St.new (St.refl (Ow.nil m)) rfl (.box m.w.heap.size z.cells t) rfl (dy _ _)).le h
def putAt(cs:Array Value)(i:Nat)(vs:List Value):Array Value:=(cs.toList.take i++vs++cs.toList.drop (i+vs.length)).toArray
theorem Ik{w:World}{b i:Nat}{cs:Array Value}{T:TypeId}{v:Value}(hb:w.heap[b]?=some (.cells cs T (0,0)))(hT:(eA P t).map (·.2)=some v.cells.size)(hfit:i+v.cells.size<=cs.size)(h1:v.cells.toList.all (·.oneCell')=true):
 ∃w',(storeVar t ⟨b,i,none⟩ v).run P w=.ok () w'/\w.grownBy w' (some b)/\w'.heap.size=w.heap.size/\w'.heap[b]?=some (.cells (putAt cs i v.cells.toList) T (0,0)):=by
 obtain⟨inf,hi,hsz⟩:∃i,P.info? t=some i/\i.size=v.cells.size:=by
  cases ha:eA P t with
  |none=>simp[ha]at hT
  |some p=>
   obtain⟨d,i,hu,hi,hd,hsz⟩:=gK (b:=p.1) (s:=p.2) ha
   exact⟨i,hi,by rw[ha]at hT;simpa[hsz]using hT⟩
 have hst:=run_storeCells_at P b i T v.cells.toList 0 cs w hb (by simp;omega) (fun u hu=>aE.1 h1 u hu)
 simp only[Nat.add_zero]at hst
 refine⟨_,?_,?_,?_,setRow_heap w b cs _ T _ hb⟩
 . simp[storeVar,sizeOf,typeInfo,hi,hsz,hst,putAt]
 . exact⟨rfl,rfl,rfl,by simp,fun k _ hk=>setRow_other w b k _ (fun e=>hk (by rw[e]))⟩
 . simp
theorem Kr{b i:Nat}{cs:Array Value}{T:TypeId}{v:Value}(hK:Ke a K)(k:Nat)(hS:St B m0 m L)(ho:o.op=.store t x y)(hx:fu K x=some (.pointer (some ⟨b,i,none⟩)))(hy:fu K y=some v)(hk:L[k]?=some (.box b cs T))
 (hT:(eA P t).map (·.2)=some v.cells.size) (hfit:decide (i+v.cells.size<=cs.size)=true) (h1:v.cells.toList.all (·.oneCell')=true)
 (hp:∀m',Le m m'->St B m0 m' (.box b (putAt cs i v.cells.toList) T::L.eraseIdx k)->bP undef m'.w):bC P o a m.w bP:=by
 obtain⟨w',h2,h3,h4,h5⟩:=Ik (P:=P) (t:=t) (hS.yS k hk) hT (aZ hfit) h1
 have hS1:=hS.front k hk
 have hS2:=hS1.write h3 h4 h5
 have hr:St (bF (bM.box b cs T::L.eraseIdx k)) m ⟨w',m.ok⟩ _:=(St.refl hS1.ow).write h3 h4 h5
 unfold bC execOp
 simp only[ho,hK.ev hx,hK.ev hy,Instr.storeAt,Instr.sureAddr,Sem.run_bind,Sem.run_pure,Result.andThen_ok,h2]
 exact hp ⟨w',m.ok⟩ hr.le hS2
end
def Enters(P:Program)(f:FuncId):Prop:=∀(args:Array Value) (w:World),(callFunc f args).run P w=.ok (.enter f args) w
theorem enters_of{P:Program}{f:FuncId}{fn:Func}(hf:P.funcs[f]?=some fn)(h1:(fn.name == "runtime.NumGoroutine")=false)(h2:fn.body.isNone=false):Enters P f:=by
 intro args w;have e1:fn.name≠ "runtime.NumGoroutine" :=by simpa using h1
 have e2:fn.body≠none:=by intro e;simp[e]at h2
 simp[callFunc,program,Sem.run,hf,e1,e2]
section
variable {P:Program}{o:Oper}{n:Nat}{a:Act}{K:Kt}{ds:List Deferred}{B:List Nat}{m0 m:Mem}{L:List bM}{bP:Value->World->Prop}{x y:Operand}{t e:TypeId}{α:Type}{R:Mem->α->List Value->Prop}{sz:Nat}
theorem jh{w:World}{z:Value}{bytes:Nat}(hT:cV P t e z sz bytes):(sizeOf e).run P w=.ok sz w:=by
 obtain⟨i,hi,hz,hs,hb⟩:=info_parts hT.info;simp[sizeOf,typeInfo,hi,hs]
theorem SY[Inhabited α]{z:Value}{bytes:Nat}{ad:Option Addr}{cap:Nat}{l:List α}{k:IntKind}{i:Int}(hT:cV P t e z sz bytes)(hE:dc R m sz ad cap l)(j:Nat)(hK:Ke a K)(ho:o.op=.indexAddr t x y)(hx:fu K x=some (.slice ad l.length cap))(hy:fu K y=some (.int k i))
 (hij:i=(j:Int)) (hj:j<l.length) (hp:∀b p cs,R m l[j]! cs->At m b p cs->bP (.pointer (some ⟨b,p,none⟩)) m.w):bC P o a m.w bP:=by
 subst hij
 rw[getElem!_pos l j hj]at hp
 obtain⟨b,q,cs,rfl,hl,hr,hA⟩:=hE.get hT.pos hj
 have hb:(0:Int)<=(j:Int)/\(j:Int)<(l.length:Int):=⟨by omega,by omega⟩
 unfold bC execOp
 simp only[ho,hK.ev hx,hK.ev hy,Instr.indexAt,asIntOf,Sem.run_bind,Sem.run_pure,Result.andThen_ok,run_underlying hT.fg,jh hT,hb,and_self,if_true,aK,Addr.add_mid]
 exact hp b (q+j*sz) cs hr hA
theorem SQ{w:World}{ad:Option Addr}{k cap:Nat}{ty:TypeId}(hu:P.underlying t=some (.slice e)):(Builtin.len_ #[t] ty #[.slice ad k cap]).run P w=.ok (.int .i64 k) w:=by
 simp[Builtin.len_,run_underlying hu];rfl
theorem PE{z:Value}{bytes:Nat}{g:Option Nat}{cap cap2:Nat}{l l':List α}{a2:Option Addr}(hT:cV P t e z sz bytes)(hR:mh R sz)(hK:Ke a K)(k:Nat)(hS:St B m0 m L)(hk:L[k]?=some (rowOf e sz g cap l))(hE:dc R m sz (eG g) cap l)(hE2:dc R m sz a2 cap2 l')
 (ho:o.op=.call ⟨.builtin .append,#[x,y],#[t,t]⟩) (hx:fu K x=some (.slice (eG g) l.length cap)) (hy:fu K y=some (.slice a2 l'.length cap2)) (hlen:(l.length+l'.length)*bytes<=140737488355328)
 (hp:∀m' g' cap',Le m m'->St B m0 m' (rowOf e sz g' cap' (l++l')::L.eraseIdx k)->dc R m' sz (eG g') cap' (l++l')->bP (.slice (eG g') (l++l').length cap') m'.w) (h63:l.length+l'.length<=maxLen):bC P o a m.w bP:=by
 obtain⟨g',cap',m',h1,h2,h3,h4⟩:=yN (ty:=o.type) hT hR (hS.front k hk) hE hE2 hlen h63
 unfold bC execOp
 simp only[ho,resolve,invoke,builtin,Sem.run_bind,Sem.run_pure,Result.andThen_ok,aV,aF,bh,hK.ev hx,hK.ev hy,h1]
 exact hp m' g' cap' h2 h3 h4
end
abbrev U8(c:UInt8):Value:=.int .u8 (c.toNat:Int)
def oZ(_:Mem)(x:UInt8)(cs:List Value):Prop:=cs=[U8 x]
theorem Ie:mh oZ 1:=⟨fun h _=>h,fun h=>by rw[h];rfl,fun h u hu=>by rw[h]at hu;simp at hu;subst hu;rfl,by decide⟩
inductive mQ{α β:Type}(R:α->β->Prop):List α->List β->Prop
 |nil:mQ R [] []
 |cons {a:α} {b:β} {l:List α} {l':List β}:R a b->mQ R l l'->mQ R (a::l) (b::l')
theorem mQ.len{α β:Type}{R:α->β->Prop}{l:List α}{l':List β}(h:mQ R l l'):l.length=l'.length:=by
 induction h with
 |nil=>rfl
 |cons _ _ ih=>simp[ih]
theorem df{P:Program}{w:World}{k:IntKind}{j y:Nat}{c:BoundsCode}(h:j<=y):(Instr.sliceBound (.int k (j:Int)) y c).run P w=.ok j w:=by
 have hb:(0:Int)<=(j:Int)/\(j:Int)<=(y:Int):=⟨by omega,by omega⟩;simp only[Instr.sliceBound,asIntOf,Sem.run_bind,Sem.run_pure,Result.andThen_ok,hb,and_self,if_true,aK]
section
variable {P:Program}{o:Oper}{n:Nat}{a:Act}{K:Kt}{ds:List Deferred}{B:List Nat}{m0 m:Mem}{L:List bM}{bP:Value->World->Prop}{x y z:Operand}{t e:TypeId}{α:Type}{R:Mem->α->List Value->Prop}{sz:Nat}
theorem St.G0(hS:St B m0 m L)(T:TypeId)(sz:Nat):St B m0 m (rowOf T sz none 0 ([]:List α)::L):=
 ⟨hS.le,hS.kept,hS.news,⟨by rw[dJ];exact hS.ow.nodup,fun x hx=>by
  rcases aB.1 hx with rfl|hx
  . intro b hb;cases hb
  . exact hS.ow.ok x hx,fun x hx=>by
  rcases aB.1 hx with rfl|hx
  . intro b hb;simp[rowOf,bM.row]at hb
  . exact hS.ow.apart x hx⟩,fun b hb=>hS.kj b (by rw[dJ]at hb;simpa[rowOf,bM.row]using hb)⟩
theorem Ry{l:List α}{b cap:Nat}(hR:mh R sz)(css:List (List Value)){cs:List Value}(hA:At m b 0 cs)(hcs:cs=css.flatten)(hm:cap<=maxLen)(h:mQ (fun x c=>R m x c) l css)(hcap:l.length=cap:=by rfl):dc R m sz (some ⟨b,0,none⟩) cap l:=by
 subst hcs;subst hcap;have hl:css.length=l.length:=h.len.symm;refine dc.Xj hR hl (fun i x c hx hc=>?_) hA (Nat.le_refl _) hm;clear hA hm
 induction h generalizing i with
 |nil=>simp at hx
 |cons h1 _ ih=>
  cases i with
  |zero=>simp at hx hc;subst hx hc;exact h1
  |succ i=>exact ih (by simpa using hl) i (by simpa using hx) (by simpa using hc)
theorem jg{w:World}{zv:Value}{bytes:Nat}(hT:cV P t e zv sz bytes)(ad:Option Addr)(len cap l h:Nat)(lo hi:Option Value)(hb:(Instr.sliceBounds true len cap lo hi none).run P w=.ok (l,h,cap) w):
 (Instr.sliceAt t (.slice ad len cap) lo hi none).run P w=.ok (.slice (cX ad cap l sz) (h-l) (cap-l)) w:=by
 simp only[Instr.sliceAt,Sem.run_bind,run_underlying hT.fg,Result.andThen_ok,Instr.slice,hb,jh hT,Sem.run_pure]
 rfl
theorem xp{zv:Value}{bytes:Nat}{ad:Option Addr}{cap:Nat}{l:List α}{k:IntKind}{i:Int}(hT:cV P t e zv sz bytes)(hE:dc R m sz ad cap l)(j:Nat)(hij:i=(j:Int))(hK:Ke a K)(ho:o.op=.slice t x (some y) none none)(hx:fu K x=some (.slice ad l.length cap))(hy:fu K y=some (.int k i))
 (hj:j<=l.length) (hp:bP (.slice (cX ad cap j sz) (l.drop j).length (cap-j)) m.w):bC P o a m.w bP:=by
 subst hij
 have:=jg (P:=P) (w:=m.w) hT ad l.length cap j l.length (some (.int k j)) none (by simp only[Instr.sliceBounds,Sem.run_bind,Sem.run_pure,Result.andThen_ok,df hj])
 unfold bC execOp
 simp only[ho,ak,Option.map_none,hK.ev hx,hK.ev hy,Sem.run_bind,this,Result.andThen_ok,Sem.run_pure]
 rw[ba]at hp;exact hp
theorem MA{zv:Value}{bytes:Nat}{ad:Option Addr}{cap:Nat}{l:List α}{k:IntKind}{i:Int}(hT:cV P t e zv sz bytes)(hE:dc R m sz ad cap l)(j:Nat)(hij:i=(j:Int))(hK:Ke a K)(ho:o.op=.slice t x none (some y) none)(hx:fu K x=some (.slice ad l.length cap))(hy:fu K y=some (.int k i))
 (hj:j<=l.length) (hp:bP (.slice ad (l.take j).length cap) m.w):bC P o a m.w bP:=by
 subst hij
 have hc:=hE.pN.2.2
 have:=jg (P:=P) (w:=m.w) hT ad l.length cap 0 j none (some (.int k j)) (by simp only[Instr.sliceBounds,Sem.run_bind,Sem.run_pure,Result.andThen_ok,df (Nat.le_trans hj hc)])
 unfold bC execOp
 simp only[ho,ak,Option.map_none,hK.ev hx,hK.ev hy,Sem.run_bind,this,Result.andThen_ok,Sem.run_pure,fp,Nat.sub_zero]
 rw[aH,Nat.min_eq_left hj]at hp;exact hp
theorem Iu{zv:Value}{bytes:Nat}{ad:Option Addr}{cap:Nat}{l:List α}{k k':IntKind}{i i':Int}(hT:cV P t e zv sz bytes)(hE:dc R m sz ad cap l)(j j':Nat)(hij:i=(j:Int))(hij':i'=(j':Int))(hK:Ke a K)(ho:o.op=.slice t x (some y) (some z) none)(hx:fu K x=some (.slice ad l.length cap))(hy:fu K y=some (.int k i))(hz:fu K z=some (.int k' i'))
 (hj:j<=j'/\j'<=l.length) (hp:bP (.slice (cX ad cap j sz) ((l.take j').drop j).length (cap-j)) m.w):bC P o a m.w bP:=by
 subst hij hij'
 have hc:=hE.pN.2.2
 have:=jg (P:=P) (w:=m.w) hT ad l.length cap j j' (some (.int k j)) (some (.int k' j')) (by simp only[Instr.sliceBounds,Sem.run_bind,Sem.run_pure,Result.andThen_ok,df (Nat.le_trans hj.2 hc),df hj.1])
 unfold bC execOp
 simp only[ho,ak,Option.map_none,hK.ev hx,hK.ev hy,hK.ev hz,Sem.run_bind,this,Result.andThen_ok,Sem.run_pure]
 rw[ba,aH,Nat.min_eq_left hj.2]at hp;exact hp
end
section
variable {P:Program}{o:Oper}{a:Act}{K:Kt}{ds:List Deferred}{B:List Nat}{m0 m:Mem}{L:List bM}{bP:Value->World->Prop}{x y:Operand}{t t' e:TypeId}{w:World}{ρ:Operand->Value}
theorem wv{ad:Option Addr}{n c:Nat}(ho:o.op=.binOp .eql t x y t')(hx:ρ x=.slice ad n c)(hy:ρ y=.slice none 0 0)(hu:P.underlying t=some (.slice e)):(execOp ρ o).run P w=.ok (.value (.bool ad.isNone)) w:=by
 have h:=Lib.run_eql_slice_nil (P:=P) w t e ad n c 0 0 hu;unfold execOp;simp only[ho,hx,hy,eqGuard,Sem.run_bind,Bool.not_true,aN,if_false,Sem.run_pure,Result.andThen_ok,h]
theorem wx{ad:Option Addr}{n c:Nat}(ho:o.op=.binOp .neq t x y t')(hx:ρ x=.slice ad n c)(hy:ρ y=.slice none 0 0)(hu:P.underlying t=some (.slice e)):(execOp ρ o).run P w=.ok (.value (.bool (!ad.isNone))) w:=by
 have h:=run_neq_slice_nil_any (P:=P) w t e ad n c 0 0 hu;unfold execOp;simp only[ho,hx,hy,eqGuard,Sem.run_bind,Bool.not_true,aN,if_false,Sem.run_pure,Result.andThen_ok,h]
theorem dc.uO{α:Type}{R:Mem->α->List Value->Prop}{sz cap:Nat}{l:List α}(h:dc R m sz none cap l):l=[]:=by
 obtain⟨css,h1,h2,_⟩:=h;have:=h1.2.2.2.1 rfl;exact bq (by have:=h1.2.1;omega)
theorem dc.zH{α:Type}{R:Mem->α->List Value->Prop}{ad:Option Addr}{sz cap:Nat}{l:List α}(h:dc R m sz ad cap l)(hn:ad.isNone=true):l=[]:=by
 cases ad with
 |none=>exact h.uO
 |some _=>cases hn
theorem IG{css:List (List Value)}:∀{l:List UInt8},css.length=l.length->(∀(i:Nat) (x:UInt8) (cs:List Value),l[i]?=some x->css[i]?=some cs->cs.length=1/\oZ m x cs)->css.flatten=l.map U8:=by
 induction css with
 |nil=>intro l h _;cases l<;>simp_all
 |cons c css ih=>
  intro l h hh
  cases l with
  |nil=>simp at h
  |cons x l=>
   have h0:=(hh 0 x c rfl rfl).2
   unfold oZ at h0
   subst h0
   rw[List.flatten_cons,aF,ih (by simpa using h) (fun i x cs hx hc=>hh (i+1) x cs (by simpa using hx) (by simpa using hc))]
   rfl
theorem dc.TW{ad:Option Addr}{cap:Nat}{l:List UInt8}(h:dc oZ m 1 ad cap l):Sl m 1 ad l.length cap (l.map U8):=by
 obtain⟨css,h1,h2,h3⟩:=h;rw[IG h2 h3]at h1;exact h1
theorem Mt{ad:Option Addr}{cap:Nat}{bs:List UInt8}(ho:o.op=.convert t t' x)(hx:ρ x=.slice ad bs.length cap)(hs:P.underlying t=some (.slice e))(he:P.underlying e=some (.int .u8))(hd:P.underlying t'=some .string)(hE:dc oZ m 1 ad cap bs):
 (execOp ρ o).run P m.w=.ok (.value (.string ⟨bs.toArray⟩)) m.w:=by
 have h:(convert t t' (.slice ad bs.length cap)).run P m.w=.ok (.string ⟨bs.toArray⟩) m.w:=by
  rw[run_convert_bytes_string m.w t t' e ad bs.length cap hs he hd]
  cases ad with
  |none=>
   have:bs=[]:=hE.uO
   subst this
   simp[Conv.bytesToString];rfl
  |some ad=>
   have hsl:=hE.TW
   have hls:(loadCells ad bs.length).run P m.w=.ok ((bs.map fun c=>(c.toNat:Int)).map (Value.int .u8)).toArray m.w:=by
    have:=run_loadCells_list (P:=P) m.w ad (bs.map U8) (fun j v hj=>by
     obtain⟨b,o,ha,_,hc⟩:=hsl.2.2.2.2 j v hj;cases ha;rw[Addr.add_mid];exact hc)
    rw[aP]at this;rw[this,List.map_map];rfl
   rw[run_bytesToString m.w ad bs.length cap _ hls,foldl_push_bytes]
   congr 2
   simp[ByteArray.empty,ByteArray.emptyWithCapacity,List.map_map,Function.comp_def]
   rfl
 unfold execOp
 simp only[ho,hx,Sem.run_bind,h,Result.andThen_ok,Sem.run_pure]
theorem Te(x y:List UInt8):((⟨x.toArray⟩:ByteArray).toList == (⟨y.toArray⟩:ByteArray).toList)=decide (x=y):=by
 rw[ByteArray.toList_eq,ByteArray.toList_eq,Bool.eq_iff_iff];simp
end
def lN(f:Nat->UInt8):Array Value:=((List.range 32).map fun i=>Value.int .u8 ((f i).toNat:Int)).toArray
section
variable {P:Program}{o:Oper}{x y:Operand}{t t' e:TypeId}{w:World}{ρ:Operand->Value}{op:BinOp}
theorem pB{xs ys:Array Value}{v:Value}(ho:o.op=.binOp op t x y t')(hx:ρ x=.agg xs)(hy:ρ y=.agg ys)(hg:P.eqGuardType P.depth t=false)(h:(binOp op t (.agg xs) (.agg ys)).run P w=.ok v w):(execOp ρ o).run P w=.ok (.value v) w:=by
 have h2:(eqGuard op t x y (.agg xs) (.agg ys)).run P w=.ok () w:=by
  unfold eqGuard;cases op<;>simp[program,Sem.run,hg]
 unfold execOp;simp only[ho,hx,hy,Sem.run_bind,h2,Result.andThen_ok,h,Sem.run_pure]
theorem qN(d:Nat)(he:P.underlying e=some (.int .u8))(f g:Nat->UInt8):∀(is:List Nat),(∀i∈is,i<32)->(Op.eqItems (d+1) e 1 (lN f) (lN g) is).run P w=.ok (is.all fun i=>f i == g i) w
 |[],_=>by simp[Op.eqItems]
 |i::is,h=>by
  have hi:=h i (by simp);have hp:∀f:Nat->UInt8,(part e (lN f) (i*1)).run P w=.ok (.int .u8 ((f i).toNat:Int)) w:=fun f=>by
   have hc:(lN f)[i]?=some (.int .u8 ((f i).toNat:Int)):=by simp[lN,hi]
   simp[part,jf he,sZ,Nat.mul_one,hc]
  have ih:=qN d he f g is (fun j hj=>h j (by simp[hj]));have hb:(((f i).toNat:Int) == ((g i).toNat:Int))=(f i == g i):=by
   rw[Bool.eq_iff_iff];simp;exact⟨fun h=>UInt8.toNat_inj.1 (by omega),fun h=>by rw[h]⟩
  simp only[Op.eqItems,Sem.run_bind,hp,Result.andThen_ok,run_equalIn_int w d e .u8 .u8 _ _ he,hb,List.all_cons];cases f i == g i
  . simp
  . simp[ih]
theorem AB(hu:P.underlying t=some (.array 32 e))(he:P.underlying e=some (.int .u8))(hs:eA P e=some (false,1))(f g:Nat->UInt8):(binOp .eql t (.agg (lN f)) (.agg (lN g))).run P w=.ok (.bool (ic f g)) w:=by
 obtain⟨dd,i,hu',hi,hd,hsz⟩:=gK hs;have hc:P.cellsOf e=1:=by simp[Program.cellsOf,hi,hsz]
 have h:=run_equalIn_array (P:=P) w 9999 (lN f) (lN g) hu hi;rw[hc,qN 9998 he f g (List.range 32) (fun i hi=>by simpa using hi)]at h;rw[run_eql_struct,h];rfl
end
section
variable {P:Program}{o:Oper}{a:Act}{K:Kt}{ds:List Deferred}{B:List Nat}{m0 m:Mem}{L:List bM}{bP:Value->World->Prop}{x y z:Operand}{t kt et:TypeId}
theorem wy(_hK:Ke a K)(hS:St B m0 m L)(ho:o.op=.makeMap t none)
 (hp:∀m' b,Le m m'->St B m0 m' (.obj b (.map #[] 0)::L)->bP (.map (some b)) m'.w):bC P o a m.w bP:=by
 unfold bC execOp
 simp only[ho,Option.map_none,run_makeMap,Sem.run_bind,Sem.run_pure,Result.andThen_ok]
 have h:=hS.new (o:=.map #[] 0) rfl (.obj m.w.heap.size (.map #[] 0)) rfl (dy _ _)
 exact hp _ _ (St.new (St.refl (Ow.nil m)) (o:=.map #[] 0) rfl (.obj m.w.heap.size (.map #[] 0)) rfl (dy _ _)).le h
end
section
variable {P:Program}{o:Oper}{a:Act}{K:Kt}{ds:List Deferred}{B:List Nat}{m0 m:Mem}{L:List bM}{bP:Value->World->Prop}{x:Operand}{t e:TypeId}
theorem Fp(w:World)(p:Addr)(n:Nat)(q:Addr):(w.freeze p n).cell? q=w.cell? q:=by
 unfold World.freeze;split
 . rfl
 unfold World.cell?;simp only[Array.getElem?_modify];by_cases h:p.block=q.block
 . rw[if_pos h]
   cases hq:w.heap[q.block]? with
   |none=>rfl
   |some ob=>cases ob<;>rfl
 . rw[if_neg h]
theorem Dl(w:World)(p:Addr)(n k:Nat)(h:k≠p.block):(w.freeze p n).heap[k]?=w.heap[k]?:=by
 unfold World.freeze;split
 . rfl
 simp only[Array.getElem?_modify];rw[if_neg (fun e=>h e.symm)]
theorem Fq(w:World)(p:Addr)(n:Nat):(w.freeze p n).heap.size=w.heap.size:=by
 unfold World.freeze;split
 . rfl
 . simp
end
end
section
open Go.RowKit
namespace D
def writer(ops:Array Oper)(t:Tmp):Option Nat:=(List.range ops.size).find? fun i=>(ops[i]?).bind (·.dst) == some t
inductive Tq(ops:Array Oper)(i:Nat):Nat->Prop
 |at_ {j:Nat} {o:Oper} {e:Edge}:ops[j]?=some o->e∈o.after->Region.binds .any e=true->e.on=i->Tq ops i j
 |step {j:Nat} {o:Oper} {e:Edge}:ops[j]?=some o->e∈o.after->Region.binds .any e=true->Tq ops i e.on->Tq ops i j
def E0(i:Nat):List Oper->Nat->Nat->Nat
 |[],_,acc=>acc
 |o::os,j,acc=>cond (o.after.any fun e=>Region.binds .any e&&(Nat.beq e.on i||acc.testBit e.on)) (E0 i os (j+1) (acc ||| 1 <<< j)) (E0 i os (j+1) acc)
def mS(ops:Array Oper)(i j:Nat):Bool:=(E0 i ops.toList 0 0).testBit j
theorem QW{α:Type}{xs:Array α}{p:α->Bool}(h:xs.any p=true):∃e,e∈xs/\p e=true:=by
 rw[<- Array.any_toList,List.any_eq_true]at h;obtain⟨e,he,hp⟩:=h;exact⟨e,by simpa using he,hp⟩
theorem pY{ops:Array Oper}{i:Nat}:∀(os:List Oper) (j acc:Nat),os=ops.toList.drop j->(∀k,acc.testBit k=true->Tq ops i k)->∀k,(E0 i os j acc).testBit k=true->Tq ops i k
 |[],_,_,_,h,k,hk=>h k hk
 |o::os,j,acc,hd,h,k,hk=>by
  have ho:ops[j]?=some o:=by
   have h1:(o::os)[0]?=(ops.toList.drop j)[0]?:=by rw[hd]
   rw[List.getElem?_drop]at h1;simpa using h1.symm
  have hd':os=ops.toList.drop (j+1):=by rw[<- List.drop_drop,<- hd];rfl
  unfold E0 at hk;cases hc:(o.after.any fun e=>Region.binds .any e&&(Nat.beq e.on i||acc.testBit e.on))with
  |false=>rw[hc]at hk;exact pY os (j+1) acc hd' h k hk
  |true=>
   rw[hc]at hk
   refine pY os (j+1) _ hd' (fun q hq=>?_) k hk
   rw[Nat.testBit_or,Bool.or_eq_true]at hq
   rcases hq with hq|hq
   . exact h q hq
   . have:q=j:=by
      simp only[Nat.testBit_shiftLeft,al,aR,ge_iff_le,Nat.testBit_one_eq_true_iff_self_eq_zero]at hq;omega
     subst this
     obtain⟨e,he,hee⟩:=QW hc
     simp only[al,Bool.or_eq_true,Nat.beq_eq]at hee
     rcases hee.2 with h2|h2
     . exact .at_ ho he hee.1 h2
     . exact .step ho he hee.1 (h _ h2)
theorem rn{ops:Array Oper}{i j:Nat}(h:mS ops i j=true):Tq ops i j:=pY ops.toList 0 0 rfl (fun k hk=>by simp at hk) j h
def P3(ops:Array Oper)(n i:Nat):Bool:=
 match ops[i]? with
 |none=>true
 |some o=>
  (match o.dst with|some d=>writer ops d == some i&&decide (d<n)|none=>true)&&
  (o.after.all fun e=>!Region.binds .any e||decide (e.on<i))&&
  ((o.looksAt ops).all fun t=>match writer ops t with|none=>true|some j=>mS ops j i||mS ops i j||j == i)
def tidy(ops:Array Oper)(n:Nat):Bool:=(List.range ops.size).all (P3 ops n)
section
variable {ops:Array Oper}{n:Nat}
theorem wO{t:Tmp}{j:Nat}(h:writer ops t=some j):∃o,ops[j]?=some o/\o.dst=some t:=by
 have:=List.find?_some h;simp only[beq_iff_eq]at this
 cases ho:ops[j]? with
 |none=>simp[ho]at this
 |some o=>exact⟨o,rfl,by simpa[ho]using this⟩
def jN(l:Array Bool)(i:Nat):Prop:=l.getD i false=true
theorem oY{l:Array Bool}{i:Nat}(hi:i<l.size):l.getD i true=false↔¬ jN l i:=by
 unfold jN;simp[hi]
theorem nc(n i:Nat):¬ jN (Array.replicate n false) i:=by
 unfold jN;by_cases h:i<n<;>simp[h]
def left(ops:Array Oper)(l:Array Bool):Nat:=(List.range ops.size).countP fun i=>l.getD i true == false
theorem gF{l:Array Bool}{i:Nat}(hi:i<l.size)(k:Nat):jN (l.setIfInBounds i true) k↔k=i\/jN l k:=by
 unfold jN;by_cases h:i=k
 . subst h;simp[hi]
 . rw[Go.getD_set_ne false h];simp[Ne.symm h]
theorem BZ{p q:Nat->Bool}:∀(L:List Nat) (i:Nat),i∈L->(∀x,q x=true->p x=true)->p i=true->q i=false->L.countP q<L.countP p
 |[],i,h,_,_,_=>by cases h
 |x::L,i,h,hpq,hp,hq=>by
  by_cases hx:x=i
  . subst hx;rw[List.countP_cons_of_pos hp,List.countP_cons_of_neg (by simp[hq])];exact Nat.lt_succ_of_le (List.countP_mono_left fun y _ hy=>hpq y hy)
  . have hm:i∈L:=by cases h with|head=>exact absurd rfl hx|tail _ h=>exact h
    have:=BZ L i hm hpq hp hq;by_cases hqx:q x=true
    . rw[List.countP_cons_of_pos hqx,List.countP_cons_of_pos (hpq x hqx)];omega
    . rw[List.countP_cons_of_neg hqx];by_cases hpx:p x=true
      . rw[List.countP_cons_of_pos hpx];omega
      . rw[List.countP_cons_of_neg hpx];omega
theorem uF{l:Array Bool}{i:Nat}(hl:l.size=ops.size)(hi:i<ops.size)(h:¬ jN l i):left ops (l.setIfInBounds i true)<left ops l:=by
 refine BZ _ i (List.mem_range.2 hi) (fun x hx=>?_) ?_ ?_
 . by_cases e:i=x
   . subst e;simp[hl,hi]at hx
   . rw[Go.getD_set_ne true e]at hx;exact hx
 . simp only[beq_iff_eq];exact(oY (by omega)).2 h
 . simp[hl,hi]
theorem gi{a:Act}{d:Tmp}{v:Value}(h:d<a.tmps.size):(a.put (some d) v).eval (.tmp d)=v:=by
 simp[Act.eval,Act.put,h]
theorem mN(h:tidy ops n=true){i:Nat}{o:Oper}(ho:ops[i]?=some o):
 (∀d,o.dst=some d->writer ops d=some i/\d<n)/\(∀e∈o.after,Region.binds .any e=true->e.on<i)/\
 (∀t∈o.looksAt ops,∀j,writer ops t=some j->mS ops j i=true\/mS ops i j=true\/j=i):=by
 have hi:i<ops.size:=(Array.getElem?_eq_some_iff.1 ho).1
 have h1:=aE.1 h i (List.mem_range.2 hi)
 simp only[P3,ho,al]at h1
 obtain⟨⟨h1,h2⟩,h3⟩:=h1
 refine⟨fun d hd=>?_,fun e he hb=>?_,fun t ht j hj=>?_⟩
 . simp only[hd,al,beq_iff_eq,aR]at h1;exact h1
 . have:=Array.all_eq_true_iff_forall_mem.1 h2 e he
   simpa[hb]using this
 . have:=aE.1 h3 t ht
   simp only[hj,Bool.or_eq_true,beq_iff_eq]at this
   rcases this with(h|h)|h
   . exact .inl h
   . exact .inr (.inl h)
   . exact .inr (.inr h)
theorem yI(ht:tidy ops n=true){l:Array Bool}(hl:l.size=ops.size)(hr:Region.ready .any ops l=[]):∀i,i<ops.size->jN l i:=by
 intro i
 induction i using Nat.strongRecOn with
 |_ i ih=>
  intro hi
  refine bj fun hn=>?_
  have ho:ops[i]?=some ops[i]:=by simp[hi]
  have:i∈Region.ready .any ops l:=Go.mem_ready.2 ⟨(oY (by omega)).2 hn,ops[i],ho,fun e he hb=>ih e.on ((mN ht ho).2.1 e he hb) (by have:=(mN ht ho).2.1 e he hb;omega)⟩
  rw[hr]at this;cases this
theorem I7{l:Array Bool}(hc:∀j o,ops[j]?=some o->jN l j->∀e∈o.after,Region.binds .any e=true->jN l e.on){i j:Nat}(h:Tq ops i j):(∀o,ops[j]?=some o->∀e∈o.after,Region.binds .any e=true->jN l e.on)->jN l i:=by
 induction h with
 |at_ ho he hb h=>intro hall;exact h▸hall _ ho _ he hb
 |step ho he hb _ ih=>intro hall;exact ih fun o' ho'=>hc _ o' ho' (hall _ ho _ he hb)
theorem ly{l:Array Bool}(hc:∀j o,ops[j]?=some o->jN l j->∀e∈o.after,Region.binds .any e=true->jN l e.on)(i j:Nat)(o:Oper)(ho:ops[j]?=some o)
 (hall:∀e∈o.after,Region.binds .any e=true->jN l e.on) (h:mS ops i j=true):jN l i:=
 I7 hc (rn h) fun o' ho'=>by rw[ho]at ho';cases ho';exact hall
end
abbrev Rs:=List (Value->World->Prop)
def at_(rs:Rs)(i:Nat):Value->World->Prop:=if i<rs.length then rs.getD (rs.length-1-i) (fun _ _=>True)else fun _ _=>True
end D
end
section
open Go.RowKit G
section
variable {P:Program}{Q:Exit->Act->World->Prop}{rr:Option Nat}{n:Nat}{a:Act}{K:Kt}{ds:List Deferred}{w:World}
theorem P8{x:Code}(J:Act->World->Prop)(hj:∀a w,J a w->Q .normal a w)(h:x.wpIn (FW rr) 0 P (Exit.then J Q) a w):x.wpIn (FW rr) 0 P Q a w:=
 wpIn_mono h fun e a' w' hq=>by cases e<;>first|exact hj _ _ hq|exact hq
theorem Tj{σ A:Type}{f:σ->Option (σ⊕A)}{s0:σ}{r:A}{c:Code}(h:Iter f s0=some r)(I:σ->Act->World->Prop)(h0:I s0 a w)
 (round:∀k s x a w,I s a w->f s=some x->EL f k r x->c.wpIn (FW rr) 0 P (Exit.then (fun a' w'=>∃k',k'<k/\∃s',lx f k' s' r/\I s' a' w') Q) a w):(Code.loop c).wpIn (FW rr) 0 P Q a w:=by
 obtain⟨k,hk⟩:=lu.1 h
 refine P9 (fun k a w=>∃s,lx f k s r/\I s a w) ⟨k,s0,hk,h0⟩ ?_
 rintro k a w ⟨s,hl,hI⟩
 cases k with
 |zero=>exact hl.elim
 |succ k=>
  obtain⟨x,hx,hl⟩:=hl
  refine round (k+1) s x a w hI hx ?_
  cases x with
  |inl s'=>exact⟨k,Nat.lt_succ_self k,hl⟩
  |inr a=>exact hl
theorem Sg{σ A:Type}{f:σ->Option (σ⊕A)}{k:Nat}{r:A}{s':σ}{I:σ->Act->World->Prop}(h:EL f k r (.inl s'))(hI:I s' a w):∃k',k'<k/\∃s',lx f k' s' r/\I s' a w:=by
 obtain⟨k',h1,h2⟩:=h;exact⟨k',h1,s',h2,hI⟩
end
section
variable {P:Program}{o:Oper}{n:Nat}{a:Act}{K:Kt}{ds:List Deferred}{B:List Nat}{m0 m:Mem}{L:List bM}{bP:Value->World->Prop}{x y z:Operand}{t e:TypeId}{α:Type}{R:Mem->α->List Value->Prop}{sz:Nat}{zv:Value}{bytes cap:Nat}{ad:Option Addr}{l l':List α}
theorem Xx{k:IntKind}{i:Int}{u:α}(hT:cV P t e zv sz bytes)(hE:dc R m sz ad cap l)(hx:idx l i=some u)(hK:Ke a K)(ho:o.op=.indexAddr t x y)(hxx:fu K x=some (.slice ad l.length cap))(hy:fu K y=some (.int k i))
 (hp:∀b p cs,R m u cs->At m b p cs->bP (.pointer (some ⟨b,p,none⟩)) m.w):bC P o a m.w bP:=by
 obtain⟨j,hij,hj⟩:=qy hx
 have hjl:j<l.length:=(List.getElem?_eq_some_iff.1 hj).1
 have hu:l[j]=u:=(List.getElem?_eq_some_iff.1 hj).2
 haveI:Inhabited α:=⟨u⟩
 refine SY hT hE j hK ho hxx hy hij hjl fun b p cs hR hA=>hp b p cs ?_ hA
 rw[getElem!_pos l j hjl,hu]at hR;exact hR
theorem My{k:IntKind}{i:Int}(hT:cV P t e zv sz bytes)(hE:dc R m sz ad cap l)(hx:jY l i=some l')(hK:Ke a K)(ho:o.op=.slice t x (some y) none none)(hxx:fu K x=some (.slice ad l.length cap))(hy:fu K y=some (.int k i))
 (hp:∀a' c',dc R m sz a' c' l'->bP (.slice a' l'.length c') m.w):bC P o a m.w bP:=by
 obtain⟨j,hij,hj,rfl⟩:=uZ hx
 exact xp hT hE j hij hK ho hxx hy hj (hp _ _ (hE.from j hj))
theorem SZ{k:IntKind}{i:Int}(hT:cV P t e zv sz bytes)(hE:dc R m sz ad cap l)(hx:pK l i=some l')(hK:Ke a K)(ho:o.op=.slice t x none (some y) none)(hxx:fu K x=some (.slice ad l.length cap))(hy:fu K y=some (.int k i))
 (hp:∀a' c',dc R m sz a' c' l'->bP (.slice a' l'.length c') m.w):bC P o a m.w bP:=by
 obtain⟨j,hij,hj,rfl⟩:=tA hx
 exact MA hT hE j hij hK ho hxx hy hj (hp _ _ (hE.upto j hj))
theorem PG{k k':IntKind}{i i':Int}(hT:cV P t e zv sz bytes)(hE:dc R m sz ad cap l)(hx:tz l i i'=some l')(hK:Ke a K)(ho:o.op=.slice t x (some y) (some z) none)(hxx:fu K x=some (.slice ad l.length cap))(hy:fu K y=some (.int k i))(hz:fu K z=some (.int k' i'))
 (hp:∀a' c',dc R m sz a' c' l'->bP (.slice a' l'.length c') m.w):bC P o a m.w bP:=by
 obtain⟨p,q,hip,hiq,hpq,hq,rfl⟩:=Gr hx
 exact Iu hT hE p q hip hiq hK ho hxx hy hz ⟨hpq,hq⟩ (hp _ _ (hE.cut p q hpq hq))
theorem Xu{g:Option Nat}{cap2:Nat}{l2:List α}{a2:Option Addr}(hT:cV P t e zv sz bytes)(hR:mh R sz)(hx:app bytes l l2=some l')(hK:Ke a K)(k:Nat)(hS:St B m0 m L)(hk:L[k]?=some (rowOf e sz g cap l))(hE:dc R m sz (eG g) cap l)(hE2:dc R m sz a2 cap2 l2)
 (ho:o.op=.call ⟨.builtin .append,#[x,y],#[t,t]⟩) (hxx:fu K x=some (.slice (eG g) l.length cap)) (hy:fu K y=some (.slice a2 l2.length cap2)) (hb:decide (1<=bytes)=true)
 (hp:∀m' g' cap',Le m m'->St B m0 m' (rowOf e sz g' cap' l'::L.eraseIdx k)->dc R m' sz (eG g') cap' l'->bP (.slice (eG g') l'.length cap') m'.w):bC P o a m.w bP:=by
 obtain⟨h1,rfl⟩:=nr hx
 have h2:l.length+l2.length<=(l.length+l2.length)*bytes:=Nat.le_mul_of_pos_right _ (aZ hb)
 exact PE hT hR hK k hS hk hE hE2 ho hxx hy h1 hp (by unfold maxLen;omega)
theorem yo(hR:mh R sz)(hS:St B m0 m L){l2:List α}{css dss:List (List Value)}(h2:css.length=l.length)(h4:∀(i:Nat) (x:α) (cs:List Value),l[i]?=some x->css[i]?=some cs->cs.length=sz/\R m x cs)
 (k2:dss.length=l2.length) (k4:∀(i:Nat) (x:α) (cs:List Value),l2[i]?=some x->dss[i]?=some cs->cs.length=sz/\R m x cs) (hxl:css.flatten.length=l.length*sz) (hyl:dss.flatten.length=l2.length*sz)
 {cap':Nat} {cur:Array Value} (hcs:cur.size=cap'*sz) (hge:l.length+l2.length<=cap') (hcm:cap'<=maxLen) (htake:cur.toList.take ((l.length+l2.length)*sz)=css.flatten++dss.flatten):
 ∃m':Mem,m'.w=m.w.drew.alloc (.cells cur e (0,0))/\Le m m'/\St B m0 m' (rowOf e sz (some m.w.heap.size) cap' (l++l2)::L)/\dc R m' sz (eG (some m.w.heap.size)) cap' (l++l2):=by
 obtain⟨f2,f4⟩:=sW h2 h4 k2 k4
 have hll:(l++l2).length=l.length+l2.length:=by simp
 have hg:Below m.w.heap.size m.w (m.w.drew.alloc (.cells cur e (0,0))):=((Below.refl _ _).drew).alloc (Nat.le_refl _) _
 have hb':(m.w.drew.alloc (.cells cur e (0,0))).heap[m.w.heap.size]?=some (.cells cur e (0,0)):=heap_alloc_new m.w.drew _
 let X:Nat->Nat->Prop:=fun c o=>c=m.w.heap.size/\o<(l++l2).length*sz
 have hle:Le m ⟨m.w.drew.alloc (.cells cur e (0,0)),fun c o=>m.ok c o\/X c o⟩:=
  ⟨rfl,rfl,rfl,Below.size hg,fun c o hc=>⟨⟨.inl hc,Nat.lt_of_lt_of_le hc.2 (Below.size hg)⟩,rE hg hc.2⟩⟩
 have k:St [] m ⟨m.w.drew.alloc (.cells cur e (0,0)),fun c o=>m.ok c o\/X c o⟩ [rowOf e sz (some m.w.heap.size) cap' (l++l2)]:=by
  refine⟨hle,fun c hc _=>Below.block hg c hc,fun c o hc=>?_,⟨by simp[rowOf,bM.row],fun x hx=>?_,fun x hx c hc o ho hm=>?_⟩,fun c hc=>?_⟩
  . rcases hc.1 with h|h
    . exact .inl h
    . exact .inr (.inl (by rw[h.1];exact Nat.le_refl _))
  . simp at hx;subst hx;intro c hc;cases hc;exact⟨cur,hb',hcs⟩
  . simp at hx;subst hx;simp[rowOf,bM.row]at hc;subst hc;have ho':(l++l2).length*sz<=o:=ho;rcases hm.1 with h|h
    . exact absurd h.2 (by simp)
    . have h2:o<(l++l2).length*sz:=h.2;omega
  . simp[rowOf,bM.row]at hc;subst hc;exact .inr (Nat.le_refl _)
 have hE':dc R ⟨m.w.drew.alloc (.cells cur e (0,0)),fun c o=>m.ok c o\/X c o⟩ sz (eG (some m.w.heap.size)) cap' (l++l2):=by
  refine⟨css++dss,⟨?_,by simpa using hge,hcm,(fun h=>by cases h),fun j v hv=>⟨m.w.heap.size,0,rfl,⟨.inr ⟨rfl,?_⟩,by simp⟩,?_⟩⟩,f2,fun i x cs hx hc=>⟨(f4 i x cs hx hc).1,hR.mono (f4 i x cs hx hc).2 hle⟩⟩
  . simp only[bc,ay,hxl,hyl,aM]
  . have:j<(css++dss).flatten.length:=(List.getElem?_eq_some_iff.1 hv).1;simp only[bc,ay,hxl,hyl]at this;rw[hll,aM];omega
  . have hjl:j<(css++dss).flatten.length:=(List.getElem?_eq_some_iff.1 hv).1;simp only[bc,ay,hxl,hyl]at hjl;rw[cell_of_row _ _ _ _ _ _ hb',aJ,<- Array.getElem?_toList];have e1:(cur.toList.take ((l.length+l2.length)*sz))[j]?=(css.flatten++dss.flatten)[j]?:=by rw[htake]
    rw[List.getElem?_take,if_pos (by rw[aM];omega)]at e1;rw[e1,<- bc];exact hv
 exact⟨_,rfl,hle,hS.call k,hE'⟩
theorem Cz{cap2:Nat}{l2:List α}{a2:Option Addr}(hT:cV P t e zv sz bytes)(hR:mh R sz)(hx:app bytes l l2=some l')(hK:Ke a K)(hS:St B m0 m L)(hE:dc R m sz ad cap l)(hE2:MU R m sz a2 cap2 l2)
 (ho:o.op=.call ⟨.builtin .append,#[x,y],#[t,t]⟩) (hxx:fu K x=some (.slice ad l.length cap)) (hy:fu K y=some (.slice a2 l2.length cap2)) (hb:decide (1<=bytes)=true) (hfull:cap<l.length+l2.length)
 (hp:∀m' g' cap',Le m m'->St B m0 m' (rowOf e sz g' cap' l'::L)->dc R m' sz (eG g') cap' l'->bP (.slice (eG g') l'.length cap') m'.w):bC P o a m.w bP:=by
 obtain⟨hlen,rfl⟩:=nr hx
 have h2:l.length+l2.length<=(l.length+l2.length)*bytes:=Nat.le_mul_of_pos_right _ (aZ hb)
 have h63:l.length+l2.length<=maxLen:=by unfold maxLen;omega
 obtain⟨css,h1,h2,h4⟩:=hE
 obtain⟨dss,k1,k2,k4⟩:=hE2
 have hone:=lf hR k2 k4
 have hll:(l++l2).length=l.length+l2.length:=by simp
 obtain⟨cap',cur,hrun,hcs,hge,hcm,htake⟩:=qM (P:=P) (ty:=o.type) hT ad l.length cap _ h1 a2 l2.length cap2 _ k1 hone hlen h63 hfull
 obtain⟨m',r1,r2,r3,r4⟩:=yo (e:=e) hR hS h2 h4 k2 k4 h1.1 k1.1 hcs hge hcm htake
 unfold bC execOp
 simp only[ho,resolve,invoke,builtin,Sem.run_bind,Sem.run_pure,Result.andThen_ok,aV,aF,bh,hK.ev hxx,hK.ev hy,hrun]
 have:=hp m' (some m.w.heap.size) cap' r2 r3 r4
 rw[hll,r1]at this
 exact this
theorem PD{cap2:Nat}{l2:List α}{a2:Option Addr}(hT:cV P t e zv sz bytes)(hR:mh R sz)(hx:app bytes l l2=some l')(hK:Ke a K)(hS:St B m0 m L)(hE:dc R m sz ad cap l)(hE2:dc R m sz a2 cap2 l2)
 (ho:o.op=.call ⟨.builtin .append,#[x,y],#[t,t]⟩) (hxx:fu K x=some (.slice ad l.length cap)) (hy:fu K y=some (.slice a2 l2.length cap2)) (hb:decide (1<=bytes)=true) (hfull:cap<l.length+l2.length)
 (hp:∀m' g' cap',Le m m'->St B m0 m' (rowOf e sz g' cap' l'::L)->dc R m' sz (eG g') cap' l'->bP (.slice (eG g') l'.length cap') m'.w):bC P o a m.w bP:=
 Cz hT hR hx hK hS hE hE2.src ho hxx hy hb hfull hp
theorem AE{b T size nn i c o0:Nat}(hK:Ke a K)(hS:St B m0 m (.row (some b) T size nn::L))(ho:o.op=.convert t t x)(hx:fu K x=some (.slice (some ⟨b,o0,none⟩) i c))(hu:P.underlying t=some (.slice e))(he:P.underlying e=some (.int .u8))
 (hp:∀m',Le m m'->St B m0 m' L->bP (.slice (some ⟨b,o0,none⟩) i c) m'.w):bC P o a m.w bP:=by
 have hbn:b ∉ bF L:=by
  have:=hS.ow.nodup;rw[dJ]at this;simp[bM.row]at this;exact this.1
 have hbB:=hS.kj b (by rw[dJ];simp[bM.row])
 have hS':=hS.drop
 have key:∀w':World,w'.os=m.w.os->w'.tape=m.w.tape->w'.output=m.w.output->w'.heap.size=m.w.heap.size->(∀q,w'.cell? q=m.w.cell? q)->(∀k,k≠b->w'.heap[k]?=m.w.heap[k]?)->bP (.slice (some ⟨b,o0,none⟩) i c) w':=by
  intro w' h1 h2 h3 h4 h5 h6;have hle:Le m ⟨w',m.ok⟩:=⟨h1,h2,h3,Nat.le_of_eq h4.symm,fun b' o' hb'=>⟨⟨hb',by simpa[h4]using hb'.2⟩,h5 _⟩⟩;refine hp ⟨w',m.ok⟩ hle ⟨hS'.le.trans hle,fun b' hb' hB=>(h6 b' (fun e=>by subst e;rcases hbB with h|h;exact hB h;omega)).trans (hS'.kept b' hb' hB),fun b' o' ho'=>hS'.news b' o' ho'.1,⟨hS'.ow.nodup,fun e' he'=>e'.loc _ _ (hS'.ow.ok e' he') fun b' hb'=>h6 b' (fun e=>hbn (cC.2 ⟨e',he',e▸hb'⟩)),fun e' he' b' hb' o' hf hm=>hS'.ow.apart e' he' b' hb' o' hf hm.1⟩,hS'.kj⟩
 have hrun:∃w',(convert t t (.slice (some ⟨b,o0,none⟩) i c)).run P m.w=.ok (.slice (some ⟨b,o0,none⟩) i c) w'/\bP (.slice (some ⟨b,o0,none⟩) i c) w':=by
  show ∃w',(convert t t (.slice (some ⟨b,o0,none⟩) i c)).run P m.w=.ok (.slice (some ⟨b,o0,none⟩) i c) w'/\bP (.slice (some ⟨b,o0,none⟩) i c) w';simp only[convert,Sem.run_bind,run_underlying hu,run_underlying he,Result.andThen_ok,beq_self_eq_true,markStringish,Go.shape,Sem.run]
  cases hsh:m.w.shape? b with
  |none=>exact⟨m.w,rfl,key _ rfl rfl rfl rfl (fun _=>rfl) (fun _ _=>rfl)⟩
  |some p=>
   have hz:∀(w:World) (p:Addr) (n:Nat),(w.freeze p n).os=w.os/\(w.freeze p n).tape=w.tape/\(w.freeze p n).output=w.output:=fun w p n=>by unfold World.freeze;split<;>exact⟨rfl,rfl,rfl⟩
   exact⟨m.w.freeze ⟨b,p.2,none⟩ 1,rfl,key _ (hz _ _ _).1 (hz _ _ _).2.1 (hz _ _ _).2.2 (Fq _ _ _) (fun q=>Fp _ _ _ _) (fun k hk=>Dl _ _ _ _ hk)⟩
 obtain⟨w',h1,h2⟩:=hrun
 unfold bC execOp
 simp only[ho,hK.ev hx,Sem.run_bind,h1,Result.andThen_ok,Sem.run_pure]
 exact h2
theorem Gl{b p n:Nat}{k:IntKind}{i:Int}(hT:P.underlying t=some (.array n e))(hs:(P.info? e).map (·.size)=some 1)(hi:0<=i/\i<(n:Int))(hK:Ke a K)(ho:o.op=.indexAddr t x y)(hx:fu K x=some (.pointer (some ⟨b,p,none⟩)))(hy:fu K y=some (.int k i))
 (hp:bP (.pointer (some ⟨b,i.toNat+p,none⟩)) m.w):bC P o a m.w bP:=by
 have hsz:(sizeOf e).run P m.w=.ok 1 m.w:=by
  cases hi:P.info? e with
  |none=>simp[hi]at hs
  |some inf=>simp[hi]at hs;simp[sizeOf,typeInfo,hi,hs]
 unfold bC execOp
 simp only[ho,hK.ev hx,hK.ev hy,Instr.indexAt,asIntOf,Instr.sureAddr,Sem.run_bind,Sem.run_pure,Result.andThen_ok,run_underlying hT,hsz,hi,and_self,if_true,Nat.mul_one,Addr.add_mid]
 rw[Nat.add_comm];exact hp
theorem Kq{op:BinOp}{k:IntKind}{i j:Int}{ρ:Operand->Value}{ty ty':TypeId}{v:Value}{w:World}(hj:¬ j=0)(ho:o.op=.binOp op ty x y ty')(hx:ρ x=.int k i)(hy:ρ y=.int k j)(hv:op=.quo/\v=.int k (k.wrap (i.tdiv j))\/op=.rem/\v=.int k (i.tmod j)):(execOp ρ o).run P w=.ok (.value v) w:=by
 rcases hv with⟨rfl,rfl⟩|⟨rfl,rfl⟩<;>simp[execOp,ho,hx,hy,binOp,Op.intDiv,hj,eqGuard]
end
theorem SS{P:Program}{o:Oper}{x y:Operand}{k k':IntKind}{i j:Int}{ρ:Operand->Value}{ty ty':TypeId}{w:World}(hj:0<=j)(ho:o.op=.binOp .shl ty x y ty')(hx:ρ x=.int k i)(hy:ρ y=.int k' j):(execOp ρ o).run P w=.ok (.value (.int k (xK k i j))) w:=by
 have h:¬ j<0:=by omega
 simp[execOp,ho,hx,hy,binOp,Op.shift,h,eqGuard,xK]
theorem SU{P:Program}{o:Oper}{x y:Operand}{k k':IntKind}{i j:Int}{ρ:Operand->Value}{ty ty':TypeId}{w:World}(hj:0<=j)(ho:o.op=.binOp .shr ty x y ty')(hx:ρ x=.int k i)(hy:ρ y=.int k' j):(execOp ρ o).run P w=.ok (.value (.int k (o7 k i j))) w:=by
 have h:¬ j<0:=by omega
 simp[execOp,ho,hx,hy,binOp,Op.shift,h,eqGuard,o7]
theorem Tz{k:IntKind}(hk:(k == .i8)=false)(c:UInt8):k.wrap (c.toNat:Int)=(c.toNat:Int):=by
 have:=c.toNat_lt;cases k<;>simp[IntKind.wrap,IntKind.bits,IntKind.signed]at hk ⊢ <;>omega
theorem Ul(c:UInt8):IntKind.u8.wrap (c.toNat:Int)=(c.toNat:Int):=Tz rfl c
theorem IH{y:Int}(h:∃x,y=IntKind.u8.wrap x):y=((u8 y).toNat:Int):=by
 obtain⟨x,rfl⟩:=h;rw[l7,YO];omega
theorem RN(c j:Nat):((c:Int).fdiv (2 ^ j))=((c/2 ^ j:Nat):Int):=by
 rw[Int.fdiv_eq_ediv_of_nonneg _ (Int.le_of_lt (Int.pow_pos (by decide)))];simp
theorem VR(c:UInt8)(y:Int):o7 .u8 (c.toNat:Int) y=((u8 (o7 .u8 (c.toNat:Int) y)).toNat:Int):=by
 have hc:=c.toNat_lt;have h:o7 .u8 (c.toNat:Int) y=((c.toNat/2 ^ (min y.toNat 8):Nat):Int):=by unfold o7;exact RN _ _
 have h2:c.toNat/2 ^ (min y.toNat 8)<=c.toNat:=Nat.div_le_self _ _;rw[h,l7];generalize c.toNat/2 ^ (min y.toNat 8)=q at *; omega
theorem Ij{P:Program}{t e:TypeId}{w:World}(hu:P.underlying t=some (.array 32 e))(he:P.underlying e=some (.int .u8))(hs:eA P e=some (false,1))(f g:Nat->UInt8):(binOp .neq t (.agg (lN f)) (.agg (lN g))).run P w=.ok (.bool (!ic f g)) w:=by
 have h:=AB (w:=w) hu he hs f g;have h2:∀xs ys:Array Value,(binOp .eql t (.agg xs) (.agg ys)).run P w=.ok (.bool (ic f g)) w->(binOp .neq t (.agg xs) (.agg ys)).run P w=.ok (.bool (!ic f g)) w:=by
  intro xs ys h;simp only[binOp,Sem.run_bind]at h ⊢
  cases hr:(Op.equal t (.agg xs) (.agg ys)).run P w with
  |ok b w'=>rw[hr]at h;simp[Sem.run_pure,Result.andThen_ok]at h ⊢; obtain⟨h1,h2⟩:=h;subst h1;exact⟨rfl,h2⟩
  |halt x w'=>rw[hr]at h;simp[Result.andThen]at h
 exact h2 _ _ h
section
variable {P:Program}{ops:Array Oper}{o:Oper}{n:Nat}{a:Act}{K:Kt}{ds:List Deferred}{w:World}{rest:List Oper}{Q:Exit->Act->World->Prop}{rr:Option Nat}
theorem qs(d:Nat)(hK:Kn n a K ds)(h:∀a',Kn n a' ((d,undef)::K) ds->wpListIn (FW rr) 0 P ops Q rest a' w)(hc:HZ ops o K n d=true:=by kernel_rfl):wpListIn (FW rr) 0 P ops Q (o::rest) a w:=VE d hK hc h
end
def isNum(k:IntKind)(_:Mem)(x:Int)(cs:List Value):Prop:=cs=[.int k x]
theorem Kg(k:IntKind):mh (isNum k) 1:=⟨fun h _=>h,fun h=>by rw[h];rfl,fun h u hu=>by rw[h]at hu;simp at hu;subst hu;rfl,by decide⟩
def WU(_:Mem)(x:Bool)(cs:List Value):Prop:=cs=[.bool x]
theorem Pe:mh WU 1:=⟨fun h _=>h,fun h=>by rw[h];rfl,fun h u hu=>by rw[h]at hu;simp at hu;subst hu;rfl,by decide⟩
abbrev str(l:List UInt8):ByteArray:=⟨l.toArray⟩
def isStr(_:Mem)(x:List UInt8)(cs:List Value):Prop:=cs=[.string (str x)]
theorem Ki:mh isStr 1:=⟨fun h _=>h,fun h=>by rw[h];rfl,fun h u hu=>by rw[h]at hu;simp at hu;subst hu;rfl,by decide⟩
def HI{α:Type}(R:Mem->α->List Value->Prop)(sz:Nat)(m:Mem)(x:List α)(cs:List Value):Prop:=∃a c,cs=[.slice a x.length c]/\dc R m sz a c x
theorem Ic{α:Type}{R:Mem->α->List Value->Prop}{sz:Nat}(h:mh R sz):mh (HI R sz) 1:=
 ⟨fun⟨a,c,h1,h2⟩ l=>⟨a,c,h1,dc.mono h h2 l⟩,fun⟨a,c,h1,_⟩=>by rw[h1];rfl,fun⟨a,c,h1,_⟩ u hu=>by rw[h1]at hu;simp at hu;subst hu;rfl,by decide⟩
end
section
open Go.RowKit G
namespace D
abbrev T3:=List (List Nat)
def chain(chs:T3)(c:Nat):List Nat:=chs.getD c []
end D
end
section
open IntKind(i64)
open Go.RowKit G
section
variable {α:Type}
def vj(enc:α->Value)(l:List α):Array Value:=(l.map enc).toArray
theorem CB(enc:α->Value)(l:List α):(vj enc l).size=l.length:=by simp[vj]
end
section
variable {P:Program}{o:Oper}{a:Act}{K:List (Nat×Value)}{B:List Nat}{m0 m:Mem}{L:List bM}{bP:Value->World->Prop}{t e:TypeId}{x y:Operand}{α:Type}
theorem Mw(enc:α->Value)(z:α){bytes n:Nat}{k k':IntKind}{i:Int}(hT:cV P t e (enc z) 1 bytes)(hz:(enc z).oneCell'=true)(hK:Ke a K)(hS:St B m0 m L)(ho:o.op=.makeSlice t x y)(hx:fu K x=some (.int k i))(hy:fu K y=some (.int k' i))
 (hi:i=(n:Int)) (hn:n*bytes<=140737488355328) (hb:0<bytes)
 (hp:∀m' b,m.w.heap.size<=b->Le m m'->St B m0 m' (.box b (vj enc (List.replicate n z)) e::L)->bP (.slice (some ⟨b,0,none⟩) n n) m'.w):bC P o a m.w bP:=by
 subst hi
 have hn':n<=140737488355328:=Nat.le_trans (Nat.le_mul_of_pos_right n hb) hn
 obtain⟨inf,hinf,hzr,hsz,hby⟩:=info_parts hT.info
 have hw:i64.wrap (n:Int)=(n:Int):=Bq (by omega) (by omega)
 have hnb:¬ ((bytes:Int)*(n:Int)>2 ^ 48):=by
  have:((n*bytes:Nat):Int)<=140737488355328:=by omega
  rw[Int.natCast_mul,Int.mul_comm]at this;omega
 have hrow:((Array.range n).map fun i=>(enc z).cells[i % (enc z).cells.size]!)=vj enc (List.replicate n z):=by
  have hc:(enc z).cells= #[enc z]:=by cases hv:enc z<;>rw[hv]at hz<;>first|rfl|cases hz
  rw[hc];apply Array.ext
  . simp[vj]
  . intro i hi hi';simp[vj,Nat.mod_one]
 have hz0:∀w:World,(zeroValue e).run P w=.ok (enc z) w:=fun w=>by simp[zeroValue,typeInfo,hinf,hzr]
 have h1:¬ ((n:Int)<0):=by omega
 have h2:¬ ((281474976710656:Int)<(bytes:Int)*(n:Int)):=by omega
 unfold bC execOp
 simp only[ho,hK.ev hx,hK.ev hy,Instr.makeSlice,asInt,asIntOf,Sem.run_bind,Sem.run_pure,Result.andThen_ok,run_underlying hT.fg]
 simp[typeInfo,sizeOf,newRow,newObj,hinf,hby,hw,hsz,h1,h2,decide_false,Bool.or_false,Bool.false_or,aN,if_false,Int.lt_irrefl,aK,Nat.mul_one,gt_iff_lt]
 by_cases h0:n=0
 . subst h0
   simp[Sem.run]
   have h:=hS.vZ (vj enc (List.replicate 0 z)) e
   rw[show(Array.map (fun(_:Nat)=>(default:Value)) (Array.range 0))=vj enc (List.replicate 0 z)by simp[vj]]
   exact hp _ _ (Nat.le_refl _) (St.new (St.refl (Ow.nil m)) rfl (.box m.w.heap.size (vj enc (List.replicate 0 z)) e) rfl (dy _ _)).le h
 . simp[h0,hz0,hrow,Sem.run]
   have h:=hS.vZ (vj enc (List.replicate n z)) e
   exact hp _ _ (Nat.le_refl _) (St.new (St.refl (Ow.nil m)) rfl (.box m.w.heap.size (vj enc (List.replicate n z)) e) rfl (dy _ _)).le h
end
end
end Go.Proofs.YtjfkdglgecgjfaaGreat
