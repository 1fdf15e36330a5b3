/- Part of the proof. -/
import Derived.Test.YtjfkdglgecgjfaaGreatZRule
import Derived.Maps.Keyed
import Derived.Maps.RangeRun
namespace Go.Proofs.YtjfkdglgecgjfaaGreat
section
open Go.RowKit G
def bR.arr(g:Option Nat)(cs:Array Value)(T:TypeId):bR:=
 ⟨g.toList,fun _ _=>True,fun w=>∀b,g=some b->w.heap[b]?=some (.cells cs T (0,0)),fun w h c hc=>by
  have:g=some c:=by cases g<;>simp_all
  exact mq (h c this),
  fun w w' h hs b hb=>by rw[hs b (by rw[hb];simp)];exact h b hb⟩
def fZ{α:Type}(R:Mem->α->List Value->Prop)(m:Mem)(sz:Nat)(g:Option Nat)(cs:Array Value)(ad:Option Addr)(cap:Nat)(l:List α):Prop:=
 ∃css:List (List Value),css.length=l.length/\(∀(i:Nat) (x:α) (c:List Value),l[i]?=some x->css[i]?=some c->c.length=sz/\R m x c)/\l.length<=cap/\cap<=maxLen/\(ad=none->cap=0)/\
  (0<cap->∃b o,g=some b/\ad=some ⟨b,o,none⟩/\(∀(j:Nat) (v:Value),css.flatten[j]?=some v->cs[o+j]?=some v)/\o+cap*sz<=cs.size)
theorem size_le{cs cs':Array Value}(h:∀i,i<cs.size->cs'[i]?≠none):cs.size<=cs'.size:=by
 refine Nat.le_of_not_lt fun hlt=>h _ hlt (Array.getElem?_eq_none (Nat.le_refl _))
section
variable {α:Type}{R:Mem->α->List Value->Prop}{m m':Mem}{sz:Nat}{g:Option Nat}{cs:Array Value}{ad:Option Addr}{cap:Nat}{l l':List α}{B:List Nat}{m0:Mem}{L:List bR}
theorem fZ.mono(hR:oY R sz)(h:fZ R m sz g cs ad cap l)(k:Le m m'):fZ R m' sz g cs ad cap l:=
 let⟨css,h1,h2,h3⟩:=h;⟨css,h1,fun i x c hx hc=>⟨(h2 i x c hx hc).1,hR.mono (h2 i x c hx hc).2 k⟩,h3⟩
theorem fZ.sC(h:fZ R m sz g cs ad cap l):l.length<=9223372036854775807/\cap<=9223372036854775807/\l.length<=cap:=by
 obtain⟨_,_,_,h3,h4,_⟩:=h;unfold maxLen at h4;omega
theorem fZ.nil(m:Mem)(sz:Nat)(cs:Array Value):fZ R m sz none cs none 0 ([]:List α):=⟨[],rfl,fun i x c h=>by simp at h,Nat.le_refl _,by simp[maxLen],fun _=>rfl,fun h=>absurd h (Nat.lt_irrefl _)⟩
theorem St.Rv(hS:St B m0 m L)(cs:Array Value)(T:TypeId):St B m0 m (.arr none cs T::L):=
 ⟨hS.le,hS.kept,hS.news,⟨by rw[eJ];exact hS.ow.nodup,fun x hx=>by
  rcases aB.1 hx with rfl|hx
  . intro b hb;cases hb
  . exact hS.ow.ok x hx,fun x hx=>by
  rcases aB.1 hx with rfl|hx
  . intro b hb;simp[bR.arr]at hb
  . exact hS.ow.apart x hx⟩,fun b hb=>hS.mQ b (by rw[eJ]at hb;simpa[bR.arr]using hb)⟩
theorem ea{β:Type}(sz:Nat):∀(css:List (List β)),(∀(i:Nat) (c:List β),css[i]?=some c->c.length=sz)->css.flatten.length=css.length*sz
 |[],_=>by simp
 |c::css,h=>by
  have h0:=h 0 c rfl;simp only[List.flatten_cons,ay,bw];rw[h0,ea sz css (fun i c hi=>h (i+1) c (by simpa using hi)),aN];omega
theorem ux{css:List (List Value)}(h1:css.length=l.length)(h2:∀(i:Nat) (x:α) (c:List Value),l[i]?=some x->css[i]?=some c->c.length=sz/\R m x c):∀(i:Nat) (c:List Value),css[i]?=some c->c.length=sz:=fun i c hc=>by
 have hi:i<css.length:=(List.getElem?_eq_some_iff.1 hc).1;exact(h2 i (l[i]'(by omega)) c (by simp) hc).1
structure Rb{α:Type}(R:Mem->α->List Value->Prop)(m:Mem)(sz:Nat)(b:Nat)(cs:Array Value)(ad:Option Addr)(cap:Nat)(l:List α)(j p:Nat)(u:α)(ecs:List Value):Prop where
 lt:j<l.length
 rel:R m u ecs
 len:ecs.length=sz
 get:∀(k:Nat) (v:Value),ecs[k]?=some v->cs[p+k]?=some v
 put:∀(m':Mem) (u':α) (ecs':List Value) (cs':Array Value),oY R sz->Le m m'->R m' u' ecs'->(∀i,cs'[i]?=if p<=i/\i<p+sz then ecs'[i-p]? else cs[i]?)->fZ R m' sz (some b) cs' ad cap (l.set j u')
theorem fZ.elem(hs:0<sz)(h:fZ R m sz g cs ad cap l){j:Nat}(hj:j<l.length):∃b p ecs,g=some b/\ad.map (·.add (j*sz))=some ⟨b,p,none⟩/\Rb R m sz b cs ad cap l j p l[j] ecs:=by
 obtain⟨css,h1,h2,h3,h4,h5,h6⟩:=h;obtain⟨b,o,rfl,rfl,hg,hrm⟩:=h6 (by omega);have hcl:=ux h1 h2;have hjc:j<css.length:=by omega
 obtain⟨k1,k2⟩:=h2 j l[j] css[j] (by simp) (by simp);refine⟨b,o+j*sz,css[j],rfl,by simp[Addr.add_mid],hj,k2,k1,fun k v hv=>?_,fun m' u' ecs' cs' hR hle hr hput=>?_⟩
 . rw[Nat.add_assoc];exact hg _ _ (ig sz css hcl j k css[j] v (by simp) hv)
 . have hlen':ecs'.length=sz:=hR.size hr;refine⟨css.set j ecs',by simp[h1],fun i x c hx hc=>?_,by simpa using h3,h4,h5,fun _=>⟨b,o,rfl,rfl,fun i v hv=>?_,Nat.le_trans hrm (size_le fun i hi=>?_)⟩⟩
   . rw[List.getElem?_set]at hx hc;by_cases e:j=i
     . subst e;rw[if_pos rfl,if_pos hj]at hx;rw[if_pos rfl,if_pos hjc]at hc;cases hx;cases hc;exact⟨hlen',hr⟩
     . rw[if_neg e]at hx hc;obtain⟨q1,q2⟩:=h2 i x c hx hc;exact⟨q1,hR.mono q2 hle⟩
   . have hcl':∀(i:Nat) (c:List Value),(css.set j ecs')[i]?=some c->c.length=sz:=fun i c hc=>by
      rw[List.getElem?_set]at hc;by_cases hji:j=i
      . rw[if_pos hji,if_pos hjc]at hc;cases hc;exact hlen'
      . rw[if_neg hji]at hc;exact hcl i c hc
     have hfl:=ea sz _ hcl';have hi:i<(css.set j ecs').flatten.length:=(List.getElem?_eq_some_iff.1 hv).1;rw[hfl,List.length_set]at hi;have hq:i/sz<css.length:=Nat.div_lt_of_lt_mul (by rw[Nat.mul_comm];exact hi);have hdm:i/sz*sz+i % sz=i:=Nat.div_add_mod' i sz;have hmod:i % sz<sz:=Nat.mod_lt _ hs;rw[hput];by_cases e:i/sz=j
     . have hc:(css.set j ecs')[i/sz]?=some ecs':=by rw[e,List.getElem?_set,if_pos rfl,if_pos hjc]
       have:=ig sz _ hcl' (i/sz) (i % sz) ecs' (ecs'[i % sz]'(by omega)) hc (by simp);rw[hdm,hv]at this;rw[if_pos (by rw[<- e];omega),show o+i-(o+j*sz)=i % sz by rw[<- e];omega,this];simp
     . have hne:¬ (o+j*sz<=o+i/\o+i<o+j*sz+sz):=fun⟨a1,a2⟩=>e (by
        have:i=j*sz+(i-j*sz):=by omega
        rw[this,Nat.add_comm,Nat.add_mul_div_right _ _ hs,Nat.div_eq_of_lt (by omega),aL])
       rw[if_neg hne];refine hg i v ?_;have hc:(css.set j ecs')[i/sz]?=some css[i/sz]:=by rw[List.getElem?_set,if_neg (fun h=>e h.symm)];simp
       have t1:=ig sz _ hcl' (i/sz) (i % sz) css[i/sz] (css[i/sz]'hq)[i % sz]! hc (by
        have:=hcl (i/sz) css[i/sz] (by simp);rw[getElem!_pos _ _ (by omega)];simp)
       have t2:=ig sz _ hcl (i/sz) (i % sz) css[i/sz] (css[i/sz]'hq)[i % sz]! (by simp) (by
        have:=hcl (i/sz) css[i/sz] (by simp);rw[getElem!_pos _ _ (by omega)];simp)
       rw[hdm]at t1 t2;rw[hv]at t1;rw[t2,<- t1]
   . rw[hput];split
     . rw[List.getElem?_eq_getElem (by omega)];exact Option.some_ne_none _
     . rw[Array.getElem?_eq_getElem hi];exact Option.some_ne_none _
theorem fZ.cut(h:fZ R m sz g cs ad cap l)(i r q:Nat)(hl:i<=r)(hr:r<=l.length)(hrm:r<=q)(hm:q<=cap):fZ R m sz g cs (dG ad q i sz) (q-i) ((l.take r).drop i):=by
 obtain⟨css,h1,h2,h3,h4,h5,h6⟩:=h;have hcl:=ux h1 h2;refine⟨(css.take r).drop i,by simp[h1],fun j x c hx hc=>?_,by simp;omega,by omega,fun e=>?_,fun hp=>?_⟩
 . simp only[List.getElem?_drop,List.getElem?_take]at hx hc;split at hx
   . rename_i hlt;rw[if_pos hlt]at hc;exact h2 _ _ _ hx hc
   . cases hx
 . unfold dG at e;split at e
   . omega
   . have:ad=none:=by simpa using e
     have:=h5 this;omega
 . obtain⟨b,o,hg,rfl,ho,hrm⟩:=h6 (by omega);refine⟨b,o+i*sz,hg,?_,fun j v hv=>?_,Nat.le_trans ?_ hrm⟩
   . unfold dG;rw[if_neg (by omega)];simp[Addr.add_mid]
   . rw[<- nw sz (css.take r) i (fun k c hk=>hcl k c (by
      rw[List.getElem?_take]at hk;split at hk
      . exact hk
      . cases hk)),<- ny sz css r hcl,List.getElem?_drop,List.getElem?_take]at hv
     split at hv
     . rw[Nat.add_assoc];exact ho _ _ hv
     . cases hv
   . rw[Nat.add_assoc,<- aN];exact Nat.add_le_add_left (Nat.mul_le_mul_right _ (by omega)) _
theorem St.Fp(hR:oY R sz){T:TypeId}(h:St B m0 m (.arr g cs T::L))(hA:fZ R m sz g cs ad cap l):∃m':Mem,m'.w=m.w/\Le m m'/\St B m0 m' L/\dM R m' sz ad cap l:=by
 have hb:∀b,g=some b->m.w.heap[b]?=some (.cells cs T (0,0)):=h.ow.ok (.arr g cs T) (aq ..)
 let X:Nat->Nat->Prop:=fun c _=>g=some c
 have k:=h.tk (e':= .row none T 0 0) X (fun c o hc=>by simp[bR.arr];exact hc) (fun c hc=>by cases hc) (fun c hc=>by simp[bR.row]at hc) (by simp[bR.row]) (fun c hc=>by simp[bR.row]at hc);refine⟨m.tk X,rfl,Le.tk m X,k.drop,?_⟩;obtain⟨css,h1,h2,h3,h4,h5,h6⟩:=hA;have hcl:=ux h1 h2;refine⟨css,⟨by rw[ea sz css hcl,h1],h3,h4,h5,fun j v hv=>?_⟩,h1,fun i x c hx hc=>⟨(h2 i x c hx hc).1,hR.mono (h2 i x c hx hc).2 (Le.tk m X)⟩⟩;have hj:j<css.flatten.length:=(List.getElem?_eq_some_iff.1 hv).1;rw[ea sz css hcl,h1]at hj;have hc0:0<cap:=by
  refine Nat.pos_of_ne_zero fun h0=>?_
  have:l.length=0:=by omega
  rw[this]at hj;simp at hj
 obtain⟨b,o,hg,ha,ho,_⟩:=h6 hc0;refine⟨b,o,ha,⟨.inr hg,mq (hb b hg)⟩,?_⟩;show m.w.cell? _=_;rw[cell_of_row _ _ _ _ _ _ (hb b hg)];exact ho j v hv
end
section
variable {P:Program}{o:Oper}{a:Act}{K:Kt}{B:List Nat}{m0 m:Mem}{L:List bR}{b6:Value->World->Prop}{x y:Operand}{t e:TypeId}{α:Type}{R:Mem->α->List Value->Prop}{sz bytes cap:Nat}{zv:Value}{ad:Option Addr}{l l':List α}{g:Option Nat}{cs:Array Value}{u:α}
theorem St.toBox{b:Nat}{T:TypeId}(h:St B m0 m (.arr (some b) cs T::L)):St B m0 m (.box b cs T::L):=by
 have hbl:bK (.box b cs T::L)=bK (.arr (some b) cs T::L):=by simp[bR.box,bR.arr]
 refine⟨h.le,h.kept,h.news,⟨by rw[hbl];exact h.ow.nodup,fun x hx=>?_,fun x hx c hc o' hf=>?_⟩,fun c hc=>h.mQ c (by rw[<- hbl];exact hc)⟩
 . rcases aB.1 hx with rfl|hx
   . exact h.ow.ok (.arr (some b) cs T) (by simp) b rfl
   . exact h.ow.ok x (by simp[hx])
 . rcases aB.1 hx with rfl|hx
   . exact h.ow.apart (.arr (some b) cs T) (by simp) c (by simpa[bR.box,bR.arr]using hc) o' trivial
   . exact h.ow.apart x (by simp[hx]) c hc o' hf
theorem St.toArr{b:Nat}{T:TypeId}(h:St B m0 m (.box b cs T::L)):St B m0 m (.arr (some b) cs T::L):=by
 have hbl:bK (.box b cs T::L)=bK (.arr (some b) cs T::L):=by simp[bR.box,bR.arr]
 refine⟨h.le,h.kept,h.news,⟨by rw[<- hbl];exact h.ow.nodup,fun x hx=>?_,fun x hx c hc o' hf=>?_⟩,fun c hc=>h.mQ c (by rw[hbl];exact hc)⟩
 . rcases aB.1 hx with rfl|hx
   . intro b' hb';cases hb';exact h.ow.ok (.box b cs T) (by simp)
   . exact h.ow.ok x (by simp[hx])
 . rcases aB.1 hx with rfl|hx
   . exact h.ow.apart (.box b cs T) (by simp) c (by simpa[bR.box,bR.arr]using hc) o' trivial
   . exact h.ow.apart x (by simp[hx]) c hc o' hf
theorem tK(cs:Array Value)(i:Nat)(vs:List Value)(h:i+vs.length<=cs.size)(q:Nat):(putAt cs i vs)[q]?=if i<=q/\q<i+vs.length then vs[q-i]? else cs[q]?:=by
 have hl:(cs.toList.take i).length=i:=by simp;omega
 unfold putAt;rw[List.getElem?_toArray,az];by_cases h1:q<i
 . rw[if_neg (by omega),List.getElem?_append_left (by omega),List.getElem?_take,if_pos h1];simp
 . rw[List.getElem?_append_right (by omega),hl];by_cases h2:q<i+vs.length
   . rw[if_pos ⟨by omega,h2⟩,List.getElem?_append_left (by omega)]
   . rw[if_neg (by omega),List.getElem?_append_right (by omega),List.getElem?_drop,show i+vs.length+(q-i-vs.length)=q by omega];simp
theorem Uc{b p k j:Nat}{v:Value}{T:TypeId}{ecs:List Value}(hR:oY R sz)(hE:Rb R m sz b cs ad cap l j p u ecs)(hK:Ke a K)(q:Nat)(hS:St B m0 m L)(ho:o.op=.store t x y)(hx:gV K x=some (.pointer (some ⟨b,p+k,none⟩)))(hy:gV K y=some v)(hk:L[q]?=some (.box b cs T))
 (hT:(fD P t).map (·.2)=some v.cells.size) (h1:v.cells.toList.all (·.oneCell')=true) (hfit:k+v.cells.size<=sz) (u':α) (ecs':List Value) (he:ecs'=ecs.take k++v.cells.toList++ecs.drop (k+v.cells.size)) (hr:∀m',Le m m'->R m' u' ecs')
 (hp:∀m' cs',Le m m'->St B m0 m' (.box b cs' T::L.eraseIdx q)->cs'.size=cs.size->fZ R m' sz (some b) cs' ad cap (l.set j u')->b6 undef m'.w):bI P o a m.w b6:=by
 have hpos:=hR.pos
 have hlen:=hE.len
 have hbig:p+sz<=cs.size:=by
  have h5:=hE.get (sz-1) (ecs[sz-1]'(by omega)) (List.getElem?_eq_getElem _);have h6:=(Array.getElem?_eq_some_iff.1 h5).1;omega
 have hput:=tK cs (p+k) v.cells.toList (by rw[Array.length_toList];omega)
 have hsize:(putAt cs (p+k) v.cells.toList).size=cs.size:=by
  unfold putAt;rw[List.size_toArray];simp only[ay,aM,bh,Array.length_toList];omega
 refine OM hK q hS ho hx hy hk hT (bg (by omega)) h1 fun m' hl hS'=>hp m' _ hl hS' hsize (hE.put m' u' ecs' _ hR hl (hr m' hl) fun i=>?_)
 rw[hput]
 simp only[Array.length_toList]
 by_cases c1:p<=i/\i<p+sz
 . rw[if_pos c1,he]
   have t1:(ecs.take k).length=k:=by simp;omega
   by_cases c2:p+k<=i/\i<p+k+v.cells.size
   . rw[if_pos c2,az,List.getElem?_append_right (by omega),List.getElem?_append_left (by rw[t1,Array.length_toList];omega),t1]
     congr 1;omega
   . rw[if_neg c2]
     have hi:ecs[i-p]?=cs[i]?:=by
      have:=hE.get (i-p) ecs[i-p] (by simp);rw[show p+(i-p)=i by omega]at this;rw[this];simp
     by_cases c3:i<p+k
     . rw[az,List.getElem?_append_left (by omega),List.getElem?_take,if_pos (by omega)];exact hi.symm
     . rw[az,List.getElem?_append_right (by omega),List.getElem?_append_right (by rw[t1,Array.length_toList];omega),List.getElem?_drop,t1,Array.length_toList]
       rw[show k+v.cells.size+(i-p-k-v.cells.size)=i-p by omega];exact hi.symm
 . rw[if_neg c1,if_neg (by omega)]
theorem Kf{b p k j:Nat}{v:Value}{T:TypeId}{ecs:List Value}(hR:oY R sz)(hE:Rb R m sz b cs ad cap l j p u ecs)(hK:Ke a K)(q:Nat)(hS:St B m0 m L)(ho:o.op=.store t x y)(hx:gV K x=some (.pointer (some ⟨b,p+k,none⟩)))(hy:gV K y=some v)(hk:L[q]?=some (.arr (some b) cs T))
 (hT:(fD P t).map (·.2)=some v.cells.size) (h1:v.cells.toList.all (·.oneCell')=true) (hfit:decide (k+v.cells.size<=sz)=true) (u':α) (ecs':List Value) (he:ecs'=ecs.take k++v.cells.toList++ecs.drop (k+v.cells.size)) (hr:∀m',Le m m'->R m' u' ecs')
 (hp:∀m' cs',Le m m'->St B m0 m' (.arr (some b) cs' T::L.eraseIdx q)->cs'.size=cs.size->fZ R m' sz (some b) cs' ad cap (l.set j u')->b6 undef m'.w):bI P o a m.w b6:=
 Uc hR hE hK 0 (hS.front q hk).toBox ho hx hy rfl hT h1 (aZ hfit) u' ecs' he hr fun m' cs' hl hS' hsz hA=>hp m' cs' hl (St.toArr hS') hsz hA
theorem Ud{b p k j:Nat}{v:Value}{T:TypeId}{ecs:List Value}(hR:oY R sz)(hg:g=some b)(hE:Rb R m sz b cs ad cap l j p u ecs)(hK:Ke a K)(q:Nat)(hS:St B m0 m L)(ho:o.op=.store t x y)(hx:gV K x=some (.pointer (some ⟨b,p+k,none⟩)))(hy:gV K y=some v)(hk:L[q]?=some (.arr g cs T))
 (hT:(fD P t).map (·.2)=some v.cells.size) (h1:v.cells.toList.all (·.oneCell')=true) (hfit:decide (k+v.cells.size<=sz)=true) (u':α) (hr:∀m',Le m m'->R m' u' (ecs.take k++v.cells.toList++ecs.drop (k+v.cells.size)))
 (hp:∀m' cs',Le m m'->St B m0 m' (.arr g cs' T::L.eraseIdx q)->fZ R m' sz g cs' ad cap (l.set j u')->b6 undef m'.w):bI P o a m.w b6:=by
 subst hg;exact Kf hR hE hK q hS ho hx hy hk hT h1 hfit u' _ rfl hr fun m' cs' h2 h3 _ h5=>hp m' cs' h2 h3 h5
theorem MB{k:IntKind}{i:Int}(hT:dE P t e zv sz bytes)(hE:fZ R m sz g cs ad cap l)(hx:jP l i=some l')(hK:Ke a K)(ho:o.op=.slice t x (some y) none none)(hxx:gV K x=some (.slice ad l.length cap))(hy:gV K y=some (.int k i))
 (hp:∀a' c',fZ R m sz g cs a' c' l'->b6 (.slice a' l'.length c') m.w):bI P o a m.w b6:=by
 unfold jP at hx
 split at hx
 . rename_i hi
   cases hx
   obtain⟨j,rfl⟩:∃j:Nat,i=(j:Int):=⟨i.toNat,by omega⟩
   have hj:j<=l.length:=by omega
   have hc:=hE.sC.2.2
   have:=kX (P:=P) (w:=m.w) hT ad l.length cap j l.length (some (.int k j)) none (by simp only[Instr.sliceBounds,Sem.run_bind,Sem.run_pure,Result.andThen_ok,dQ hj])
   unfold bI execOp
   simp only[ho,ak,Option.map_none,hK.ev hxx,hK.ev hy,Sem.run_bind,this,Result.andThen_ok,Sem.run_pure]
   have h2:=hE.cut j l.length cap hj (Nat.le_refl _) hc (Nat.le_refl _)
   rw[bA (Nat.le_refl _)]at h2
   have h3:=hp (dG ad cap j sz) (cap-j) (by simpa using h2)
   rw[bh,aG]at h3
   exact h3
 . cases hx
theorem Ub{k:IntKind}{i:Int}(hT:dE P t e zv sz bytes)(hE:fZ R m sz g cs ad cap l)(hx:qO l i=some l')(hK:Ke a K)(ho:o.op=.slice t x none (some y) none)(hxx:gV K x=some (.slice ad l.length cap))(hy:gV K y=some (.int k i))
 (hp:fZ R m sz g cs ad cap l'->b6 (.slice ad l'.length cap) m.w):bI P o a m.w b6:=by
 obtain⟨j,rfl,hj,rfl⟩:=wv hx
 have hc:=hE.sC.2.2
 have:=kX (P:=P) (w:=m.w) hT ad l.length cap 0 j none (some (.int k j)) (by simp only[Instr.sliceBounds,Sem.run_bind,Sem.run_pure,Result.andThen_ok,dQ (Nat.le_trans hj hc)])
 unfold bI execOp
 simp only[ho,ak,Option.map_none,hK.ev hxx,hK.ev hy,Sem.run_bind,this,Result.andThen_ok,Sem.run_pure,gR,Nat.sub_zero]
 have h2:=hE.cut 0 j cap (Nat.zero_le _) hj (Nat.le_trans hj hc) (Nat.le_refl _)
 rw[gR,Nat.sub_zero,List.drop_zero]at h2
 have h3:=hp h2
 rw[aM,Nat.min_eq_left hj]at h3
 exact h3
theorem T4{cap2:Nat}{l2:List α}{a2:Option Addr}(hT:dE P t e zv sz bytes)(hR:oY R sz)(hx:app bytes l l2=some l')(hK:Ke a K)(q:Nat)(hS:St B m0 m L)(hk:L[q]?=some (.arr g cs e))(hsz:∀b,g=some b->cs.size=cap*sz)(hE:fZ R m sz g cs (fP g) cap l)(hE2:dM R m sz a2 cap2 l2)
 (ho:o.op=.call ⟨.builtin .append,#[x,y],#[t,t]⟩) (hxx:gV K x=some (.slice (fP g) l.length cap)) (hy:gV K y=some (.slice a2 l2.length cap2)) (hb:decide (1<=bytes)=true)
 (hp:∀m' g' cs' cap',Le m m'->St B m0 m' (.arr g' cs' e::L.eraseIdx q)->(∀b,g'=some b->cs'.size=cap'*sz)->fZ R m' sz g' cs' (fP g') cap' l'->b6 (.slice (fP g') l'.length cap') m'.w):bI P o a m.w b6:=by
 obtain⟨hlen,rfl⟩:=nT hx
 have hmul:l.length+l2.length<=(l.length+l2.length)*bytes:=Nat.le_mul_of_pos_right _ (aZ hb)
 have h1:=hS.front q hk
 let R0:Mem->α->List Value->Prop:=fun _ x c=>R m x c
 have hR0:oY R0 sz:=⟨fun h _=>h,fun h=>hR.size h,fun h=>hR.one h,hR.pos⟩
 have hbk:∀b,g=some b->m.w.heap[b]?=some (.cells cs e (0,0)):=h1.ow.ok (.arr g cs e) (aq ..)
 let X:Nat->Nat->Prop:=fun c o=>g=some c/\o<l.length*sz
 have hO:Ow m [.arr g cs e]:=Ow.left (L:=[.arr g cs e]) h1.ow
 have hg1:=(St.refl hO).tk (e':=rowOf e sz g cap l) X (fun c o hc=>by simp[bR.arr];exact hc.1) (fun b hb=>⟨cs,hbk b hb,hsz b hb⟩) (fun c hc=>by simpa[bR.arr,rowOf,bR.row]using hc) (by cases g<;>simp[rowOf,bR.row])
  (fun c hc o' hf=>⟨trivial,fun hX=>by simp only[rowOf,bR.row]at hf;exact absurd hX.2 (by omega)⟩)
 have hl1:Le m (m.tk X):=Le.tk m X
 obtain⟨css,c1,c2,c3,c4,c5,c6⟩:=hE
 have hcl:=ux c1 c2
 have hE1:dM R0 (m.tk X) sz (fP g) cap l:=by
  refine⟨css,⟨by rw[ea sz css hcl,c1],c3,c4,c5,fun j v hv=>?_⟩,c1,fun i x c hx hc=>c2 i x c hx hc⟩;have hj:j<css.flatten.length:=(List.getElem?_eq_some_iff.1 hv).1;rw[ea sz css hcl,c1]at hj;have hc0:0<cap:=by
   refine Nat.pos_of_ne_zero fun h0=>?_
   have:l.length=0:=by omega
   rw[this]at hj;simp at hj
  obtain⟨b,o',hgb,ha,ho',_⟩:=c6 hc0;have:o'=0:=by rw[hgb]at ha;simpa using(by simpa using ha:(0:Nat)=o').symm
  subst this;refine⟨b,0,ha,⟨.inr ⟨hgb,by omega⟩,mq (hbk b hgb)⟩,?_⟩;show m.w.cell? _=_;rw[cell_of_row _ _ _ _ _ _ (hbk b hgb),aL];simpa using ho' j v hv
 have hE2':dM R0 (m.tk X) sz a2 cap2 l2:=by
  obtain⟨dss,d1,d2,d3⟩:=hE2;exact⟨dss,d1.mono hl1,d2,d3⟩
 obtain⟨g',cap',m',hrun,hle',hS',hEl⟩:=Cj (P:=P) (ty:=o.type) hT hR0 (St.refl hg1.ow) hE1 hE2' hlen (by unfold maxLen;omega)
 have hle:Le m m':=hl1.trans hle'
 have hrow:∀b,g'=some b->∃cur,m'.w.heap[b]?=some (.cells cur e (0,0))/\cur.size=cap'*sz:=hS'.ow.ok (rowOf e sz g' cap' (l++l2)) (by simp)
 obtain⟨cs',hcs'⟩:∃cs':Array Value,∀b,g'=some b->m'.w.heap[b]?=some (.cells cs' e (0,0))/\cs'.size=cap'*sz:=by
  cases g' with
  |none=>exact⟨#[],fun b h=>by cases h⟩
  |some b=>obtain⟨cur,h2,h3⟩:=hrow b rfl;exact⟨cur,fun b' h=>by cases h;exact⟨h2,h3⟩⟩
 let m2:Mem:=⟨m'.w,m.ok⟩
 have hlm:Le m m2:=⟨hle.os,hle.tape,hle.output,hle.size,fun b o' hb=>⟨⟨hb,Nat.lt_of_lt_of_le hb.2 hle.size⟩,(hle.same b o' hb).2⟩⟩
 have hblk:∀b,g'=some b->g=some b\/m.w.heap.size<=b:=fun b hgb=>by
  have:=hS'.mQ b (by simp[rowOf,bR.row,hgb]);rcases this with h|h
  . simp[rowOf,bR.row]at h;exact .inl h
  . exact .inr h
 have k:St (bK [bR.arr g cs e]) m m2 [.arr g' cs' e]:=by
  refine⟨hlm,fun b hb hn=>?_,fun b o' hb=>.inl hb.1,⟨by cases g'<;>simp[bR.arr],fun x hx=>?_,fun x hx c hc o' _ hm=>?_⟩,fun b hb=>?_⟩
  . have:=hS'.kept b hb (by simpa[rowOf,bR.row,bR.arr]using hn);exact this
  . simp at hx;subst hx;exact fun b hb=>(hcs' b hb).1
  . simp at hx;subst hx;have hgc:g'=some c:=by simpa[bR.arr]using hc
    rcases hblk c hgc with h|h
    . exact hO.apart (.arr g cs e) (by simp) c (by simp[bR.arr,h]) o' trivial hm.1
    . exact absurd hm.1.2 (by omega)
  . have hgc:g'=some b:=by simpa[bR.arr]using hb
    rcases hblk b hgc with h|h
    . exact .inl (by simp[bR.arr,h])
    . exact .inr h
 have hfin:=St.frame (L:=[bR.arr g cs e]) h1 k
 obtain⟨ess,e1,e2,e3⟩:=hEl
 have hAS:fZ R m2 sz g' cs' (fP g') cap' (l++l2):=by
  refine⟨ess,e2,fun i x c hx hc=>⟨(e3 i x c hx hc).1,hR.mono (e3 i x c hx hc).2 hlm⟩,e1.2.1,e1.2.2.1,e1.2.2.2.1,fun hc0=>?_⟩
  cases hgg:g' with
  |none=>have:=e1.2.2.2.1 (by rw[hgg];rfl);omega
  |some b=>
   refine⟨b,0,rfl,rfl,fun j v hv=>?_,by rw[(hcs' b hgg).2];omega⟩
   obtain⟨b',o',ha,_,hc⟩:=e1.2.2.2.2 j v hv
   rw[hgg]at ha
   cases ha
   rw[cell_of_row _ _ _ _ _ _ (hcs' b hgg).1]at hc
   simpa using hc
 unfold bI execOp
 simp only[ho,resolve,invoke,builtin,Sem.run_bind,Sem.run_pure,Result.andThen_ok,aX,aF,bp,hK.ev hxx,hK.ev hy]
 have hrun':(Builtin.append_ #[t,t] o.type #[.slice (fP g) l.length cap,.slice a2 l2.length cap2]).run P m.w=.ok (.slice (fP g') (l++l2).length cap') m'.w:=hrun
 rw[hrun']
 exact hp m2 g' cs' cap' hlm hfin (fun b hb=>(hcs' b hb).2) hAS
theorem QI{k:IntKind}{i:Int}{n:Nat}(hT:dE P t e zv sz bytes)(hi:0<=i/\i<=(n:Int))(hc:n<=cap)(hK:Ke a K)(ho:o.op=.slice t x (some y) none none)(hxx:gV K x=some (.slice ad n cap))(hy:gV K y=some (.int k i))
 (hp:b6 (.slice (dG ad cap i.toNat sz) (n-i.toNat) (cap-i.toNat)) m.w):bI P o a m.w b6:=by
 obtain⟨j,rfl⟩:∃j:Nat,i=(j:Int):=⟨i.toNat,by omega⟩
 have hj:j<=n:=by omega
 have:=kX (P:=P) (w:=m.w) hT ad n cap j n (some (.int k j)) none (by simp only[Instr.sliceBounds,Sem.run_bind,Sem.run_pure,Result.andThen_ok,dQ hj])
 unfold bI execOp
 simp only[ho,ak,Option.map_none,hK.ev hxx,hK.ev hy,Sem.run_bind,this,Result.andThen_ok,Sem.run_pure]
 exact hp
def vH{α:Type}(R:Mem->α->List Value->Prop)(m:Mem)(sz:Nat)(g:Option Nat)(cs:Array Value)(cap:Nat)(l:List α):Prop:=fZ R m sz g cs (fP g) cap l/\∀b,g=some b->cs.size=cap*sz
theorem vH.mono(hR:oY R sz)(h:vH R m sz g cs cap l){m':Mem}(k:Le m m'):vH R m' sz g cs cap l:=⟨h.1.mono hR k,h.2⟩
theorem vH.nil(m:Mem)(sz:Nat)(cs:Array Value):vH R m sz none cs 0 ([]:List α):=⟨fZ.nil m sz cs,fun b h=>by cases h⟩
theorem QK{b p k j:Nat}{v:Value}{T:TypeId}{ecs:List Value}(hF:vH R m sz g cs cap l)(hR:oY R sz)(hg:g=some b)(hE:Rb R m sz b cs (fP g) cap l j p u ecs)(hK:Ke a K)(q:Nat)(hS:St B m0 m L)(ho:o.op=.store t x y)(hx:gV K x=some (.pointer (some ⟨b,p+k,none⟩)))(hy:gV K y=some v)(hk:L[q]?=some (.arr g cs T))
 (hT:(fD P t).map (·.2)=some v.cells.size) (h1:v.cells.toList.all (·.oneCell')=true) (hfit:decide (k+v.cells.size<=sz)=true) (u':α) (hr:∀m',Le m m'->R m' u' (ecs.take k++v.cells.toList++ecs.drop (k+v.cells.size)))
 (hp:∀m' cs',Le m m'->St B m0 m' (.arr g cs' T::L.eraseIdx q)->vH R m' sz g cs' cap (l.set j u')->b6 undef m'.w):bI P o a m.w b6:=by
 subst hg;exact Kf hR hE hK q hS ho hx hy hk hT h1 hfit u' _ rfl hr fun m' cs' h2 h3 h4 h5=>hp m' cs' h2 h3 ⟨h5,fun b hb=>by rw[h4];exact hF.2 b hb⟩
theorem T6{cap2:Nat}{l2:List α}{a2:Option Addr}(hT:dE P t e zv sz bytes)(hR:oY R sz)(hx:app bytes l l2=some l')(hK:Ke a K)(q:Nat)(hS:St B m0 m L)(hk:L[q]?=some (.arr g cs e))(hE:vH R m sz g cs cap l)(hE2:dM R m sz a2 cap2 l2)
 (ho:o.op=.call ⟨.builtin .append,#[x,y],#[t,t]⟩) (hxx:gV K x=some (.slice (fP g) l.length cap)) (hy:gV K y=some (.slice a2 l2.length cap2)) (hb:decide (1<=bytes)=true)
 (hp:∀m' g' cs' cap',Le m m'->St B m0 m' (.arr g' cs' e::L.eraseIdx q)->vH R m' sz g' cs' cap' l'->b6 (.slice (fP g') l'.length cap') m'.w):bI P o a m.w b6:=
 T4 hT hR hx hK q hS hk hE.2 hE.1 hE2 ho hxx hy hb fun m' g' cs' cap' h1 h2 h3 h4=>hp m' g' cs' cap' h1 h2 ⟨h4,h3⟩
end
section
variable {P:Program}{o:Oper}{a:Act}{K:Kt}{B:List Nat}{m0 m:Mem}{L:List bR}{b6:Value->World->Prop}{x y:Operand}{t t2 e:TypeId}{zv:Value}{bytes:Nat}{g:Option Nat}{cs:Array Value}{ad:Option Addr}{cap off n c2:Nat}{T:TypeId}{l x2:List UInt8}{a2:Option Addr}
theorem VN{α:Type}{l x:List α}{o:Nat}(h:o+x.length<=l.length)(j:Nat):(Vm l o x)[j]?=if o<=j/\j<o+x.length then x[j-o]? else l[j]?:=by
 have hl:(l.take o).length=o:=by simp;omega
 unfold Vm;rw[bA (l:=x) (by omega)];by_cases h1:j<o
 . rw[if_neg (by omega),List.getElem?_append_left (by omega),List.getElem?_take,if_pos h1]
 . rw[List.getElem?_append_right (by omega),hl];by_cases h2:j<o+x.length
   . rw[if_pos ⟨by omega,h2⟩,List.getElem?_append_left (by omega)]
   . rw[if_neg (by omega),List.getElem?_append_right (by omega),List.getElem?_drop,show o+x.length+(j-o-x.length)=j by omega]
theorem BN:∀l:List UInt8,(l.map fun u=>[U8 u]).flatten=l.map U8
 |[]=>rfl
 |u::l=>by rw[aF,List.flatten_cons,BN l];rfl
theorem fZ.RN(h:fZ rI m 1 g cs ad cap l):0<cap->∃b o,g=some b/\ad=some ⟨b,o,none⟩/\(∀j u,l[j]?=some u->cs[o+j]?=some (U8 u))/\o+cap<=cs.size:=by
 intro hc;obtain⟨css,h1,h2,_,_,_,h6⟩:=h;obtain⟨b,o,hg,ha,h7,hrm⟩:=h6 hc;refine⟨b,o,hg,ha,fun j u hu=>h7 j _ ?_,by simpa using hrm⟩;have hj:=(List.getElem?_eq_some_iff.1 hu).1;have hcj:css[j]?=some (css[j]'(by omega)):=List.getElem?_eq_getElem _;have e:css[j]'(by omega)=[U8 u]:=(h2 j u _ hu hcj).2;rw[e]at hcj;have:=ig 1 css (fun i c hc=>by
  have hi:=(List.getElem?_eq_some_iff.1 hc).1;exact(h2 i (l[i]'(by omega)) c (List.getElem?_eq_getElem _) hc).1) j 0 _ _ hcj rfl
 simpa using this
theorem fZ.ofBytes{b ofs:Nat}(hl:l.length<=cap)(hm:cap<=maxLen)(h:∀j u,l[j]?=some u->cs[ofs+j]?=some (U8 u))(hrm:ofs+cap<=cs.size):fZ rI m 1 (some b) cs (some ⟨b,ofs,none⟩) cap l:=by
 refine⟨l.map fun u=>[U8 u],by simp,fun i u c hu hc=>?_,hl,hm,(fun h=>by cases h),fun _=>⟨b,ofs,rfl,rfl,fun j v hv=>?_,by simpa using hrm⟩⟩
 . rw[List.getElem?_map,hu]at hc;cases hc;exact⟨rfl,rfl⟩
 . rw[BN,List.getElem?_map]at hv
   cases hu:l[j]? with
   |none=>rw[hu]at hv;cases hv
   |some u=>rw[hu]at hv;cases hv;exact h j u hu
theorem Xb(hT:dE P t e zv 1 bytes)(hK:Ke a K)(k:Nat)(hS:St B m0 m L)(hk:L[k]?=some (.arr g cs T))(hA:fZ rI m 1 g cs ad cap l)(hfit:off+n<=l.length)
 (hsrc:∀q,q<=x2.length->(Builtin.firstCells 1 q (.slice a2 x2.length c2)).run P m.w=.ok ((x2.take q).map U8).toArray m.w)
 (ho:o.op=.call ⟨.builtin .copy,#[x,y],#[t,t2]⟩) (hx:gV K x=some (.slice (dG ad cap off 1) n (cap-off))) (hy:gV K y=some (.slice a2 x2.length c2))
 (hp:∀m' cs',Le m m'->St B m0 m' (.arr g cs' T::L.eraseIdx k)->fZ rI m' 1 g cs' ad cap (Vm l off (x2.take n))->cs'.size=cs.size->b6 (.int .i64 (ib x2.length n)) m'.w):bI P o a m.w b6:=by
 have hq:(ib (x2.length:Int) (n:Int))=((Nat.min x2.length n:Nat):Int):=by
  unfold ib;rcases Nat.lt_or_ge n x2.length with h|h
  . rw[if_pos (by omega),show Nat.min x2.length n=n from Nat.min_eq_right (by omega)]
  . rw[if_neg (by omega),show Nat.min x2.length n=x2.length from Nat.min_eq_left h]
 have hle:Nat.min x2.length n<=x2.length:=Nat.min_le_left _ _
 have hle2:Nat.min x2.length n<=n:=Nat.min_le_right _ _
 have hf:=hsrc (Nat.min x2.length n) hle
 have htk:x2.take (Nat.min x2.length n)=x2.take n:=by
  rcases Nat.lt_or_ge n x2.length with h|h
  . rw[show Nat.min x2.length n=n from Nat.min_eq_right (by omega)]
  . rw[show Nat.min x2.length n=x2.length from Nat.min_eq_left h,List.take_length,bA h]
 rw[htk]at hf
 have hlen:((x2.take n).map U8).length=Nat.min x2.length n:=by simp[Nat.min_comm]
 rw[hq]at hp
 by_cases hz:(x2.take n)=[]
 . have hrun:(Builtin.copy_ #[t,t2] o.type #[.slice (dG ad cap off 1) n (cap-off),.slice a2 x2.length c2]).run P m.w=.ok (.int .i64 (Nat.min x2.length n:Nat)) m.w:=by
    rw[hz]at hf;cases hc:dG ad cap off 1<;>simp[Builtin.copy_,run_underlying hT.gH,Builtin.lenOf,kY hT,hf,goInt,storeCells]
   unfold bI execOp
   simp only[ho,resolve,invoke,builtin,Sem.run_bind,Sem.run_pure,Result.andThen_ok,aX,aF,bp,hK.ev hx,hK.ev hy,hrun]
   refine hp m cs (Le.refl m) (hS.front k hk) ?_ rfl
   rw[hz]
   have:Vm l off ([]:List UInt8)=l:=by unfold Vm;simp
   rw[this];exact hA
 . have hn0:0<(x2.take n).length:=List.length_pos_iff.2 hz
   have hlen2:(x2.take n).length<=n:=by simp;omega
   have h63:=hA.sC
   obtain⟨b,ofs,rfl,rfl,hcell,hrm⟩:=hA.RN (by omega)
   have hsz:ofs+l.length<=cs.size:=by
    have:=hcell (l.length-1) (l[l.length-1]'(by omega)) (List.getElem?_eq_getElem _);have:=(Array.getElem?_eq_some_iff.1 this).1;omega
   have hcut:dG (some (⟨b,ofs,none⟩:Addr)) cap off 1=some ⟨b,ofs+off,none⟩:=by
    unfold dG;rw[if_neg (by omega),Nat.mul_one,ak,Addr.add_mid]
   rw[hcut]at hx
   have hS0:=hS.front k hk
   have hS1:=hS0.toBox
   have hb:=hS1.Cp 0 rfl
   have hst:=run_storeCells_at P b (ofs+off) T ((x2.take n).map U8) 0 cs m.w hb (by rw[aQ];omega) (fun u hu=>by
    obtain⟨c,_,rfl⟩:=List.mem_map.1 hu;rfl)
   simp only[Nat.add_zero]at hst
   have hput:=tK cs (ofs+off) ((x2.take n).map U8) (by rw[aQ];omega)
   have hpsz:(putAt cs (ofs+off) ((x2.take n).map U8)).size=cs.size:=by
    unfold putAt;rw[List.size_toArray];simp only[ay,aM,bh,Array.length_toList,aQ];simp only[aM]at hlen2;omega
   have hrun:(Builtin.copy_ #[t,t2] o.type #[.slice (some ⟨b,ofs+off,none⟩) n (cap-off),.slice a2 x2.length c2]).run P m.w=.ok (.int .i64 (Nat.min x2.length n:Nat)) (m.w.setRow b (putAt cs (ofs+off) ((x2.take n).map U8))):=by
    generalize hxs:(x2.take n).map U8=xs at*
    simp[Builtin.copy_,run_underlying hT.gH,Builtin.lenOf,kY hT,hf,hst,putAt,goInt]
   generalize hcs':putAt cs (ofs+off) ((x2.take n).map U8)=cs' at*
   have hw:m.w.grownBy (m.w.setRow b cs') (some b):=⟨rfl,rfl,rfl,by simp,fun k' _ hk'=>setRow_other m.w b k' _ (fun e=>hk' (by rw[e]))⟩
   have hS2:=hS1.write hw (by simp) (setRow_heap m.w b cs _ T _ hb)
   have hr:=(St.refl hS1.ow).write hw (by simp) (setRow_heap m.w b cs _ T _ hb)
   unfold bI execOp
   simp only[ho,resolve,invoke,builtin,Sem.run_bind,Sem.run_pure,Result.andThen_ok,aX,aF,bp,hK.ev hx,hK.ev hy,hrun]
   refine hp ⟨_,m.ok⟩ cs' hr.le hS2.toArr ?_ hpsz
   have hcl:(Vm l off (x2.take n)).length=l.length:=CJ (by omega)
   obtain⟨_,_,_,h3,h4,_⟩:=hA
   refine fZ.ofBytes (by rw[hcl];exact h3) h4 (fun j u hu=>?_) (by rw[hpsz];exact hrm)
   rw[VN (by omega)]at hu
   rw[hput,aQ]
   by_cases hj:off<=j/\j<off+(x2.take n).length
   . rw[if_pos hj]at hu
     rw[if_pos ⟨by omega,by omega⟩,List.getElem?_map,show ofs+j-(ofs+off)=j-off by omega,hu];rfl
   . rw[if_neg hj]at hu
     rw[if_neg (by omega)];exact hcell j u hu
end
section
variable {α:Type}{R:Mem->α->List Value->Prop}{sz:Nat}{P:Program}{o:Oper}{a:Act}{K:Kt}{B:List Nat}{m0 m:Mem}{L:List bR}{b6:Value->World->Prop}{x:Operand}{t e:TypeId}{zv:Value}{bytes:Nat}{g:Option Nat}{cs:Array Value}{ad:Option Addr}{cap off n:Nat}{T:TypeId}{l:List α}{z:α}
theorem Fo{β:Type}(c:List β):∀(n j:Nat),(List.replicate n c).flatten[j]?=if j<n*c.length then c[j % c.length]? else none
 |0,j=>by simp
 |n+1,j=>by
  rw[List.replicate_succ,List.flatten_cons];by_cases h:j<c.length
  . rw[List.getElem?_append_left h,Nat.mod_eq_of_lt h,if_pos (by rw[Nat.succ_mul];omega)]
  . rw[List.getElem?_append_right (by omega),Fo c n,Nat.succ_mul];by_cases h2:j<n*c.length+c.length
    . rw[if_pos (by omega),if_pos h2,Nat.mod_eq_sub_mod (a:=j) (by omega)]
    . rw[if_neg (by omega),if_neg h2]
theorem DR{β:Type}{sz:Nat}{c:List β}(h:c.length=sz)(n:Nat):∀(i:Nat) (d:List β),(List.replicate n c)[i]?=some d->d.length=sz:=fun i d hd=>by
 rw[List.getElem?_replicate]at hd;split at hd
 . cases hd;exact h
 . cases hd
theorem uY{β:Type}{l:List β}{n i:Nat}{d:β}(h:(l.take n)[i]?=some d):l[i]?=some d:=by
 rw[List.getElem?_take]at h;split at h
 . exact h
 . cases h
theorem M5(c:Array Value)(n:Nat):(Builtin.zeroCells c n).toList=(List.replicate n c.toList).flatten:=by
 refine List.ext_getElem? fun j=>?_
 rw[Fo,Array.length_toList];unfold Builtin.zeroCells;rw[Array.toList_map,List.getElem?_map,Array.toList_range];by_cases h:j<n*c.size
 . rw[if_pos h,List.getElem?_range h,ak,Array.getElem?_toList];have hp:0<c.size:=Nat.pos_of_ne_zero fun e=>by rw[e,Nat.mul_zero]at h;omega
   have hm:=Nat.mod_lt j hp;rw[getElem?_pos c _ hm,getElem!_pos c _ hm]
 . rw[if_neg h,List.getElem?_eq_none (by simp;omega)];rfl
theorem fZ.abQ(hA:fZ R m sz g cs ad cap l){m':Mem}(hmo:∀x c,R m x c->R m' x c){c:List Value}(hc:c.length=sz)(hz:R m' z c){b ofs:Nat}(hg:g=some b)(had:ad=some ⟨b,ofs,none⟩)(hfit:off+n<=l.length){cs':Array Value}(hcs:∀q,cs'[q]?=if ofs+off*sz<=q/\q<ofs+off*sz+n*sz then(List.replicate n c).flatten[q-(ofs+off*sz)]? else cs[q]?):
 fZ R m' sz g cs' ad cap (EB l off n z):=by
 unfold EB
 obtain⟨css,h1,h2,h3,h4,h5,h6⟩:=hA
 have hcl:=ux h1 h2
 have e1:(css.take off).length=off:=by simp;omega
 have e2:(l.take off).length=off:=by simp;omega
 refine⟨css.take off++(List.replicate n c++css.drop (off+n)),by simp;omega,fun i x d hx hd=>?_,by simp;omega,h4,h5,fun hp=>?_⟩
 . by_cases c1:i<off
   . rw[List.getElem?_append_left (by omega),List.getElem?_take,if_pos c1]at hx hd
     exact⟨(h2 i x d hx hd).1,hmo _ _ (h2 i x d hx hd).2⟩
   . rw[List.getElem?_append_right (by omega),e1]at hd
     rw[List.getElem?_append_right (by omega),e2]at hx
     by_cases c2:i-off<n
     . rw[List.getElem?_append_left (by simpa using c2),List.getElem?_replicate,if_pos c2]at hx hd
       cases hx;cases hd;exact⟨hc,hz⟩
     . rw[List.getElem?_append_right (by simp;omega),aP,List.getElem?_drop]at hx hd
       exact⟨(h2 _ x d hx hd).1,hmo _ _ (h2 _ x d hx hd).2⟩
 . obtain⟨b',o',hg',ha',hcc,hrm⟩:=h6 hp
   rw[hg]at hg';cases hg'
   rw[had]at ha';cases ha'
   refine⟨b,ofs,hg,had,fun j v hv=>?_,Nat.le_trans hrm (size_le fun i hi=>?_)⟩
   have f1:(css.take off).flatten.length=off*sz:=by
    rw[ea sz _ fun k d hk=>hcl k d (uY hk),e1]
   have f2:(List.replicate n c).flatten.length=n*sz:=by
    rw[ea sz _ (DR hc n),aP]
   rw[bn,bn]at hv
   rw[hcs]
   by_cases c1:j<off*sz
   . rw[List.getElem?_append_left (by omega),<- ny sz css off hcl,List.getElem?_take,if_pos c1]at hv
     rw[if_neg (by omega)];exact hcc j v hv
   . rw[List.getElem?_append_right (by omega),f1]at hv
     by_cases c2:j-off*sz<n*sz
     . rw[List.getElem?_append_left (by omega)]at hv
       rw[if_pos ⟨by omega,by omega⟩,show ofs+j-(ofs+off*sz)=j-off*sz by omega];exact hv
     . rw[List.getElem?_append_right (by omega),f2,<- nw sz css (off+n) hcl,List.getElem?_drop]at hv
       rw[if_neg (by omega)]
       exact hcc j v (by rw[show(off+n)*sz+(j-off*sz-n*sz)=j by rw[aN];omega]at hv;exact hv)
   rw[hcs]
   split
   . rename_i hq
     rw[List.getElem?_eq_getElem (by rw[ea sz _ (DR hc n),aP];omega)];exact Option.some_ne_none _
   . rw[Array.getElem?_eq_getElem hi];exact Option.some_ne_none _
theorem T9(hR:oY R sz)(hT:dE P t e zv sz bytes)(hK:Ke a K)(k:Nat)(hS:St B m0 m L)(hk:L[k]?=some (.arr g cs T))(hA:fZ R m sz g cs ad cap l)(hfit:off+n<=l.length)(hz:R m z zv.cells.toList)(h1:∀u∈zv.cells.toList,u.oneCell'=true)
 (ho:o.op=.call ⟨.builtin .clear,#[x],#[t]⟩) (hx:gV K x=some (.slice (dG ad cap off sz) n (cap-off)))
 (hp:∀m' cs',Le m m'->St B m0 m' (.arr g cs' T::L.eraseIdx k)->fZ R m' sz g cs' ad cap (EB l off n z)->cs'.size=cs.size->b6 (.tuple #[]) m'.w):bI P o a m.w b6:=by
 by_cases hz0:n=0
 . subst hz0
   have hrun:(Builtin.clear_ #[t] o.type #[.slice (dG ad cap off sz) 0 (cap-off)]).run P m.w=.ok (.tuple #[]) m.w:=by
    cases hc:dG ad cap off sz<;>simp[Builtin.clear_,run_underlying hT.gH]
   unfold bI execOp
   simp only[ho,resolve,invoke,builtin,Sem.run_bind,Sem.run_pure,Result.andThen_ok,aX,aF,bp,hK.ev hx,hrun]
   refine hp m cs (Le.refl m) (hS.front k hk) ?_ rfl
   simpa[EB]using hA
 . have hcap:=hA.sC
   have hpos:=hR.pos
   have hA0:=hA
   obtain⟨css,q1,q2,q3,q4,q5,q6⟩:=hA0
   have hcl:=ux q1 q2
   obtain⟨b,ofs,hg,had,hcell,_⟩:=q6 (by omega)
   have hfl:css.flatten.length=l.length*sz:=by rw[ea sz css hcl,q1]
   have hlp:0<l.length*sz:=Nat.mul_pos (by omega) hpos
   have hsz:ofs+l.length*sz<=cs.size:=by
    have:=hcell (l.length*sz-1) (css.flatten[l.length*sz-1]'(by omega)) (List.getElem?_eq_getElem _);have:=(Array.getElem?_eq_some_iff.1 this).1;omega
   have hcut:dG ad cap off sz=some ⟨b,ofs+off*sz,none⟩:=by
    unfold dG;rw[if_neg (by omega),had,ak,Addr.add_mid]
   rw[hcut]at hx
   have hS0:=hS.front k hk
   rw[hg]at hS0
   have hS1:=hS0.toBox
   have hb:=hS1.Cp 0 rfl
   have hzl:zv.cells.toList.length=sz:=by rw[Array.length_toList];exact hT.zs
   have hrl:(List.replicate n zv.cells.toList).flatten.length=n*sz:=by
    rw[ea sz _ (DR hzl n),aP]
   have hle2:(off+n)*sz<=l.length*sz:=Nat.mul_le_mul_right _ hfit
   rw[aN]at hle2
   have hst:=run_storeCells_at P b (ofs+off*sz) T (List.replicate n zv.cells.toList).flatten 0 cs m.w hb (by rw[hrl];omega) (fun u hu=>by
    obtain⟨c,hc,hu⟩:=List.mem_flatten.1 hu;rw[List.eq_of_mem_replicate hc]at hu;exact h1 u hu)
   simp only[Nat.add_zero]at hst
   have hput:=tK cs (ofs+off*sz) (List.replicate n zv.cells.toList).flatten (by rw[hrl];omega)
   have hpsz:(putAt cs (ofs+off*sz) (List.replicate n zv.cells.toList).flatten).size=cs.size:=by
    unfold putAt;rw[List.size_toArray];simp only[ay,aM,bh,Array.length_toList,hrl];omega
   have hzr:(zeroValue e).run P m.w=.ok zv m.w:=by
    obtain⟨i,h1,h2,h3,h4⟩:=info_parts hT.info;simp[zeroValue,typeInfo,h1,h2]
   have hrun:(Builtin.clear_ #[t] o.type #[.slice (some ⟨b,ofs+off*sz,none⟩) n (cap-off)]).run P m.w=.ok (.tuple #[]) (m.w.setRow b (putAt cs (ofs+off*sz) (List.replicate n zv.cells.toList).flatten)):=by
    have hzf:=M5 zv.cells n;generalize (List.replicate n zv.cells.toList).flatten=xs at*
    obtain⟨n',rfl⟩:∃n',n=n'+1:=⟨n-1,by omega⟩;simp[Builtin.clear_,run_underlying hT.gH,hzr,hzf,hst,putAt]
   generalize hcs':putAt cs (ofs+off*sz) (List.replicate n zv.cells.toList).flatten=cs' at*
   have hw:m.w.grownBy (m.w.setRow b cs') (some b):=⟨rfl,rfl,rfl,by simp,fun k' _ hk'=>setRow_other m.w b k' _ (fun e=>hk' (by rw[e]))⟩
   have hS2:=hS1.write hw (by simp) (setRow_heap m.w b cs _ T _ hb)
   have hr:=(St.refl hS1.ow).write hw (by simp) (setRow_heap m.w b cs _ T _ hb)
   unfold bI execOp
   simp only[ho,resolve,invoke,builtin,Sem.run_bind,Sem.run_pure,Result.andThen_ok,aX,aF,bp,hK.ev hx,hrun]
   refine hp ⟨_,m.ok⟩ cs' hr.le (by rw[hg];exact hS2.toArr) ?_ hpsz
   refine hA.abQ (fun _ _ hh=>hR.mono hh hr.le) hzl (hR.mono hz hr.le) hg had hfit fun q=>?_
   rw[hput,hrl]
end
section
variable {P:Program}{B:List Nat}{m0 m:Mem}{L:List bR}{g:Option Nat}{cs:Array Value}{ad:Option Addr}{cap off n c2:Nat}{T:TypeId}{l:List UInt8}{a2:Option Addr}
theorem OT(hE:dM rI m 1 a2 c2 l)(q:Nat)(hq:q<=l.length):(Builtin.firstCells 1 q (.slice a2 l.length c2)).run P m.w=.ok ((l.take q).map U8).toArray m.w:=by
 have hsl:=hE.X4
 cases a2 with
 |none=>
  have:l=[]:=hE.xX
  subst this
  simp[Builtin.firstCells]
 |some ad=>
  exact run_firstCells_some (P:=P) m.w 1 q ad l.length c2 ((l.take q).map U8) (by rw[aQ,aM];omega) (fun j u hu=>by
   have hu':(l.map U8)[j]?=some u:=by
    rw[List.getElem?_map,List.getElem?_take]at hu;rw[List.getElem?_map];split at hu
    . exact hu
    . cases hu
   obtain⟨b',o',ha,_,hc⟩:=hsl.2.2.2.2 j u hu';cases ha;rw[Addr.add_mid];exact hc)
theorem Uk(k:Nat)(hS:St B m0 m L)(hk:L[k]?=some (.arr g cs T))(hA:fZ rI m 1 g cs ad cap l)(hfit:off+n<=l.length)(q:Nat)(hq:q<=n):(Builtin.firstCells 1 q (.slice (dG ad cap off 1) n c2)).run P m.w=.ok ((((l.drop off).take n).take q).map U8).toArray m.w:=by
 by_cases hz:q=0
 . subst hz
   cases dG ad cap off 1 with
   |none=>simp[Builtin.firstCells]
   |some z=>exact run_firstCells_some (P:=P) m.w 1 0 z n c2 [] rfl (fun j u hu=>by simp at hu)
 . have h63:=hA.sC;obtain⟨b,ofs,rfl,rfl,hcell,hrm⟩:=hA.RN (by omega);have hcut:dG (some (⟨b,ofs,none⟩:Addr)) cap off 1=some ⟨b,ofs+off,none⟩:=by
    unfold dG;rw[if_neg (by omega),Nat.mul_one,ak,Addr.add_mid]
   rw[hcut];have hb:=(hS.front k hk).toBox.Cp 0 rfl;refine run_firstCells_some (P:=P) m.w 1 q ⟨b,ofs+off,none⟩ n c2 _ (by simp only[aQ,aM,bh];omega) (fun j u hu=>?_);rw[List.getElem?_map]at hu;rw[Addr.add_mid,cell_of_row _ _ _ _ _ _ hb]
   cases hj:(((l.drop off).take n).take q)[j]? with
   |none=>rw[hj]at hu;cases hu
   |some v=>
    rw[hj]at hu;cases hu
    rw[List.getElem?_take]at hj
    split at hj
    . rw[List.getElem?_take]at hj
      split at hj
      . rw[List.getElem?_drop]at hj
        have:=hcell _ _ hj
        rw[Nat.add_assoc];exact this
      . cases hj
    . cases hj
end
end
section
open Go.Maps (Keyed)
open Go.ChangeMaps (setBlock heap_setBlock_same heap_setBlock_other)
open G
section
variable {κ ν:Type}{kR:κ->Value->Prop}{vR vR':ν->Value->Prop}{eq:κ->κ->Bool}{P:Program}{kt kt2 et t ty:TypeId}{w:World}{b clock:Nat}{es:Array MapEntry}{l:List (κ×ν)}{k:κ}{key:Value}
structure fS(P:Program)(kt:TypeId)(kR:κ->Value->Prop)(eq:κ->κ->Bool):Prop where
 check:∀(w:World) (em:Bool) {x:κ} {v:Value},kR x v->(Instr.checkKey em 10000 kt v).run P w=.ok () w
 find:∀(w:World) {x:κ} {v:Value},kR x v->∀es:List MapEntry,(∀e∈es,∃y,kR y e.key)->
  ((Instr.findKey kt v es).run P w=.ok none w/\∀e∈es,e.key≠v)\/∃j e,(Instr.findKey kt v es).run P w=.ok (some (j,e.val)) w/\es[j]?=some e/\e.key=v
 stays:∀(w:World) {x:κ} {v:Value},kR x v->(Instr.keyThatStays v v).run P w=.ok v w
 eqv:∀x y v w,kR x v->kR y w->(eq x y=true↔v=w)
theorem fS.sub{kR':κ->Value->Prop}(H:fS P kt kR eq)(h:∀x v,kR' x v->kR x v):fS P kt kR' eq:=
 ⟨fun w em _ _ hk=>H.check w em (h _ _ hk),fun w _ _ hk es he=>H.find w (h _ _ hk) es fun e hm=>let⟨y,hy⟩:=he e hm;⟨y,h _ _ hy⟩,fun w _ _ hk=>H.stays w (h _ _ hk),fun x y v w h1 h2=>H.eqv x y v w (h _ _ h1) (h _ _ h2)⟩
theorem Oe{d:TypeDesc}(hk:P.underlying kt=some d)(hK:∀x v,kR x v->MapKept.IsKey d v)(he:∀x y v w,kR x v->kR y w->(eq x y=true↔v=w)):fS P kt kR eq:=by
 refine⟨fun w em x v h=>MapKept.run_checkKey hk (hK _ _ h) em 9999,fun w x v h es hes=>?_,fun w x v h=>MapKept.run_keyThatStays (hK _ _ h),he⟩;rcases MapKept.findNow_spec (hK _ _ h) es 0 (fun e hm=>let⟨y,hy⟩:=hes e hm;hK _ _ hy)with⟨h1,h2⟩|⟨j,e0,h1,h2,h3⟩
 . exact .inl ⟨MapKept.run_findKey hk h1,h2⟩
 . exact .inr ⟨j,e0,by simpa using MapKept.run_findKey (P:=P) (w:=w) hk h1,h2,h3⟩
def Rh(kR:κ->Value->Prop)(vR:ν->Value->Prop)(e:MapEntry)(p:κ×ν):Prop:=kR p.1 e.key/\vR p.2 e.val
def lf(R:MapEntry->κ×ν->Prop):List MapEntry->List (κ×ν)->Prop
 |[],[]=>True
 |e::es,p::l=>R e p/\lf R es l
 |_,_=>False
theorem lf.len{R:MapEntry->κ×ν->Prop}:∀{es:List MapEntry} {l:List (κ×ν)},lf R es l->es.length=l.length
 |[],[],_=>rfl
 |_::_,_::_,h=>by simp[lf.len h.2]
theorem lf.mono{R R':MapEntry->κ×ν->Prop}(hR:∀e p,R e p->R' e p):∀{es:List MapEntry} {l:List (κ×ν)},lf R es l->lf R' es l
 |[],[],_=>trivial
 |_::_,_::_,h=>⟨hR _ _ h.1,lf.mono hR h.2⟩
theorem lf.app{R:MapEntry->κ×ν->Prop}{e:MapEntry}{p:κ×ν}(hp:R e p):∀{es:List MapEntry} {l:List (κ×ν)},lf R es l->lf R (es++[e]) (l++[p])
 |[],[],_=>⟨hp,trivial⟩
 |_::_,_::_,h=>⟨h.1,lf.app hp h.2⟩
theorem lf.mem{R:MapEntry->κ×ν->Prop}:∀{es:List MapEntry} {l:List (κ×ν)},lf R es l->∀e∈es,∃p∈l,R e p
 |_::_,_::_,h,e,he=>by
  rcases aB.1 he with rfl|he
  . exact⟨_,aq,h.1⟩
  . obtain⟨p,hp,hr⟩:=lf.mem h.2 e he;exact⟨p,au _ hp,hr⟩
theorem lf.at{R:MapEntry->κ×ν->Prop}:∀{es:List MapEntry} {l:List (κ×ν)} {j:Nat} {e:MapEntry},lf R es l->es[j]?=some e->∃p,l[j]?=some p/\R e p
 |_::_,_::_,0,_,h,he=>by simp at he;subst he;exact⟨_,rfl,h.1⟩
 |_::_,_::_,j+1,_,h,he=>by simp at he;simpa using lf.at h.2 he
 |[],[],_,_,_,he=>by simp at he
theorem lf.set{R:MapEntry->κ×ν->Prop}{e:MapEntry}{p:κ×ν}(hp:R e p):∀{es:List MapEntry} {l:List (κ×ν)} (j:Nat),lf R es l->lf R (es.set j e) (l.set j p)
 |[],[],_,_=>trivial
 |_::_,_::_,0,h=>⟨hp,h.2⟩
 |_::_,_::_,j+1,h=>⟨h.1,lf.set hp j h.2⟩
theorem lf.erase{R:MapEntry->κ×ν->Prop}:∀{es:List MapEntry} {l:List (κ×ν)} (j:Nat),lf R es l->lf R (es.eraseIdx j) (l.eraseIdx j)
 |[],[],_,_=>trivial
 |_::_,_::_,0,h=>h.2
 |_::_,_::_,j+1,h=>⟨h.1,lf.erase j h.2⟩
structure jZ(kR:κ->Value->Prop)(vR:ν->Value->Prop)(es:Array MapEntry)(clock:Nat)(l:List (κ×ν)):Prop where
 st:MapKept.Stamped es clock
 vw:lf (Rh kR vR) es.toList l
theorem jZ.mono{kR':κ->Value->Prop}(hk:∀x v,kR x v->kR' x v)(hv:∀x v,vR x v->vR' x v)(h:jZ kR vR es clock l):jZ kR' vR' es clock l:=⟨h.st,h.vw.mono fun _ _ h=>⟨hk _ _ h.1,hv _ _ h.2⟩⟩
theorem jZ.nil:jZ kR vR #[] 0 []:=⟨MapKept.stamped_empty 0,trivial⟩
theorem jZ.keys(h:jZ kR vR es clock l):∀e∈es.toList,∃y,kR y e.key:=fun e he=>by
 obtain⟨p,_,hp⟩:=h.vw.mem e he;exact⟨_,hp.1⟩
theorem any_none(H:fS P kt kR eq)(hk:kR k key):∀{es:List MapEntry} {l:List (κ×ν)},lf (Rh kR vR) es l->(∀e∈es,e.key≠key)->(l.any fun p=>eq k p.1)=false/\(l.find? fun p=>eq k p.1)=none
 |[],[],_,_=>⟨rfl,rfl⟩
 |e::es,p::l,h,hn=>by
  obtain⟨h1,h2⟩:=any_none H hk h.2 fun e he=>hn e (au _ he)
  have h0:eq k p.1=false:=by
   cases hq:eq k p.1 with
   |false=>rfl
   |true=>exact absurd ((H.eqv _ _ _ _ hk h.1.1).1 hq).symm (hn e aq)
  exact⟨by rw[List.any_cons,h0,h1];rfl,by rw[List.find?_cons,h0];exact h2⟩
theorem any_some(H:fS P kt kR eq)(hk:kR k key):∀{es:List MapEntry} {l:List (κ×ν)} {j:Nat} {e:MapEntry},lf (Rh kR vR) es l->es.Pairwise (fun x y=>x.key≠y.key)->es[j]?=some e->e.key=key->
 ∃p,l[j]?=some p/\Rh kR vR e p/\(l.any fun p=>eq k p.1)=true/\(l.find? fun p=>eq k p.1)=some p/\(∀v,l.map (fun p=>if eq k p.1=true then(k,v)else p)=l.set j (k,v))/\(l.filter fun p=>!eq k p.1)=l.eraseIdx j
 |e0::es,p::l,0,e,h,hp,hj,hey=>by
  simp at hj;subst hj;have h0:eq k p.1=true:=(H.eqv _ _ _ _ hk h.1.1).2 hey.symm;obtain⟨n1,n2⟩:=List.pairwise_cons.1 hp;have hno:∀x∈es,x.key≠key:=fun x hx=>by rw[<- hey];exact(n1 x hx).symm
  obtain⟨a1,_⟩:=any_none H hk h.2 hno;have hall:∀q∈l,eq k q.1=false:=fun q hq=>by
   have:=List.any_eq_false.1 a1 q hq;simpa using this
  refine⟨p,rfl,h.1,by rw[List.any_cons,h0];rfl,by rw[List.find?_cons,h0],fun v=>?_,?_⟩
  . rw[aF,if_pos h0,List.set_cons_zero];congr 1;refine(List.map_congr_left fun q hq=>?_).trans (List.map_id _);rw[if_neg (by rw[hall q hq];simp)];rfl
  . rw[List.filter_cons,if_neg (by rw[h0];simp),List.eraseIdx_cons_zero];exact List.filter_eq_self.2 fun q hq=>by rw[hall q hq];rfl
 |e0::es,p::l,j+1,e,h,hp,hj,hey=>by
  simp at hj;obtain⟨n1,n2⟩:=List.pairwise_cons.1 hp;have h0:eq k p.1=false:=by
   cases hq:eq k p.1 with
   |false=>rfl
   |true=>
    have e1:=(H.eqv _ _ _ _ hk h.1.1).1 hq
    exact absurd (e1.symm.trans hey.symm) (n1 e (List.mem_of_getElem? hj))
  obtain⟨q,q1,q2,q3,q4,q5,q6⟩:=any_some H hk h.2 n2 hj hey;refine⟨q,by simpa using q1,q2,by rw[List.any_cons,h0,q3];rfl,by rw[List.find?_cons,h0];exact q4,fun v=>?_,?_⟩
  . rw[aF,if_neg (by rw[h0];simp),q5 v,List.set_cons_succ]
  . rw[List.filter_cons,if_pos (by rw[h0];rfl),q6,List.eraseIdx_cons_succ]
theorem tQ(H:fS P kt kR eq)(ht:P.underlying t=some (.map kt et)){z:Value}(hz:(zeroValue et).run P w=.ok z w)(hb:w.heap[b]?=some (.map es clock))(h:jZ kR vR es clock l)(hk:kR k key)(c:Bool):
 ∃v,(match gI eq l k with|some x=>vR x v|none=>v=z)/\(Instr.lookup t (.map (some b)) key c).run P w=.ok (if c then .tuple #[v,.bool (gI eq l k).isSome]else v) w:=by
 have hst:=(MapKept.stamped_iff es clock).1 h.st
 unfold gI
 rcases H.find w hk es.toList h.keys with⟨h1,h2⟩|⟨j,e0,h1,h2,h3⟩
 . obtain⟨_,a2⟩:=any_none H hk h.vw h2
   rw[a2]
   exact⟨z,rfl,by simp[Instr.lookup,run_underlying ht,MapKept.run_getObj_map hb,H.check w _ hk,h1,hz,Result.andThen]⟩
 . obtain⟨p,p1,p2,p3,p4,_⟩:=any_some H hk h.vw hst.2.2 h2 h3
   rw[p4]
   exact⟨e0.val,p2.2,by simp[Instr.lookup,run_underlying ht,MapKept.run_getObj_map hb,H.check w _ hk,h1,Result.andThen]⟩
theorem BX(H:fS P kt kR eq)(ht:P.underlying t=some (.map kt et))(hb:w.heap[b]?=some (.map es clock))(h:jZ kR vR es clock l)(hk:kR k key){v:ν}{val:Value}(hv:vR v val):
 ∃es' clock',(Instr.mapUpdate t (.map (some b)) key val).run P w=.ok () (setBlock w b (.map es' clock'))/\jZ kR vR es' clock' (mG eq l k v)/\
  ((l.any fun p=>eq k p.1)=true->clock'=clock/\es'.toList.map (fun e=>(e.key,e.born))=es.toList.map (fun e=>(e.key,e.born))):=by
 have hst:=(MapKept.stamped_iff es clock).1 h.st
 unfold mG
 rcases H.find w hk es.toList h.keys with⟨h1,h2⟩|⟨j,e0,h1,h2,h3⟩
 . obtain⟨a1,_⟩:=any_none H hk h.vw h2
   rw[a1]
   refine⟨es.push ⟨key,val,clock⟩,clock+1,?_,⟨MapKept.stamped_push h.st h2,?_⟩,fun hf=>by cases hf⟩
   . simp[Instr.mapUpdate,run_underlying ht,MapKept.run_getObj_map hb,H.check w false hk,h1,MapKept.run_setObj_map _ hb,Result.andThen,setBlock]
   . rw[Array.toList_push]
     exact h.vw.app ⟨hk,hv⟩
 . obtain⟨p,p1,p2,p3,_,p5,_⟩:=any_some H hk h.vw hst.2.2 h2 h3
   rw[p3,if_pos rfl,p5]
   have hj:es[j]?=some e0:=by simpa using h2
   have hkeyf:∀e',es[j]?=some e'->({e' with key:=key,val:=val}:MapEntry).key=e'.key:=fun e' he'=>by rw[hj]at he';cases he';exact h3.symm
   have hlist:(es.modify j (fun e'=>{e' with key:=key,val:=val})).toList=es.toList.set j {e0 with key:=key,val:=val}:=by rw[Array.toList_modify,ChangeMaps.modify_eq_set _ _ _ _ h2]
   refine⟨es.modify j (fun e'=>{e' with key:=key,val:=val}),clock,?_,⟨MapKept.stamped_modify h.st _ _ (fun _ _=>rfl) (fun e' _ he'=>hkeyf e' he'),?_⟩,fun _=>⟨rfl,?_⟩⟩
   . simp[Instr.mapUpdate,run_underlying ht,MapKept.run_getObj_map hb,H.check w false hk,h1,hj,h3,H.stays w hk,MapKept.run_setObj_map _ hb,Result.andThen,setBlock]
   . rw[hlist]
     exact h.vw.set ⟨hk,hv⟩ j
   . rw[hlist,List.map_set]
     refine List.ext_getElem? fun i=>?_
     rw[List.getElem?_set]
     split
     . rename_i e;subst e
       have hjl:j<es.toList.length:=(List.getElem?_eq_some_iff.1 h2).1
       rw[List.getElem?_map,h2,aQ,if_pos hjl]
       simp[h3]
     . rfl
theorem W3(H:fS P kt kR eq)(ht:P.underlying t=some (.map kt et))(hb:w.heap[b]?=some (.map es clock))(h:jZ kR vR es clock l)(hk:kR k key):
 ∃es',(Builtin.delete_ #[t,kt2] ty #[.map (some b),key]).run P w=.ok (.tuple #[]) (setBlock w b (.map es' clock))/\jZ kR vR es' clock (Zk eq l k):=by
 have hst:=(MapKept.stamped_iff es clock).1 h.st
 unfold Zk
 rcases H.find w hk es.toList h.keys with⟨h1,h2⟩|⟨j,e0,h1,h2,h3⟩
 . obtain⟨a1,_⟩:=any_none H hk h.vw h2
   have hf:(l.filter fun p=>!eq k p.1)=l:=List.filter_eq_self.2 fun p hp=>by
    have:=List.any_eq_false.1 a1 p hp;simpa using this
   rw[hf]
   exact⟨es,by simp[Builtin.delete_,run_underlying ht,MapKept.run_getObj_map hb,H.check w _ hk,h1,MapKept.run_setObj_map _ hb,Result.andThen,setBlock],h⟩
 . obtain⟨p,p1,p2,p3,_,_,p6⟩:=any_some H hk h.vw hst.2.2 h2 h3
   rw[p6]
   have hjl:j<es.toList.length:=(List.getElem?_eq_some_iff.1 h2).1
   have hjs:j<es.size:=by simpa using hjl
   have hsub:(es.eraseIdxIfInBounds j).toList=es.toList.eraseIdx j:=by
    unfold Array.eraseIdxIfInBounds;rw[dif_pos hjs];simp
   refine⟨es.eraseIdxIfInBounds j,?_,⟨MapKept.stamped_erase h.st j,?_⟩⟩
   . simp[Builtin.delete_,run_underlying ht,MapKept.run_getObj_map hb,H.check w _ hk,h1,MapKept.run_setObj_map _ hb,Result.andThen,setBlock]
   . rw[hsub];exact h.vw.erase j
theorem Ka(H:fS P kt kR eq)(ht:P.underlying t=some (.map kt et)){z:Value}(hz:(zeroValue et).run P w=.ok z w)(hb:w.heap[b]?=some (.map es clock))(h:jZ kR vR es clock l)(hk:kR k key):
 (∃(j:Nat) (e0:MapEntry) (p:κ×ν),es.toList[j]?=some e0/\l[j]?=some p/\Rh kR vR e0 p/\e0.key=key/\(l.any fun p=>eq k p.1)=true/\(l.find? fun p=>eq k p.1)=some p/\(Instr.mapEntry t (.map (some b)) key).run P w=.ok (.tuple #[e0.val,.int .i64 (e0.born:Int)]) (setBlock w b (.map es clock)))\/
 ((l.any fun p=>eq k p.1)=false/\(l.find? fun p=>eq k p.1)=none/\(∀e∈es.toList,e.key≠key)/\(Instr.mapEntry t (.map (some b)) key).run P w=.ok (.tuple #[z,.int .i64 (clock:Int)]) (setBlock w b (.map (es.push ⟨key,z,clock⟩) (clock+1)))):=by
 have hst:=(MapKept.stamped_iff es clock).1 h.st
 rcases H.find w hk es.toList h.keys with⟨h1,h2⟩|⟨j,e0,h1,h2,h3⟩
 . obtain⟨a1,a2⟩:=any_none H hk h.vw h2
   refine .inr ⟨a1,a2,h2,?_⟩
   simp[Instr.mapEntry,run_underlying ht,MapKept.run_getObj_map hb,H.check w false hk,h1,hz,MapKept.run_setObj_map _ hb,Result.andThen,setBlock,goInt]
 . obtain⟨p,p1,p2,p3,p4,_,_⟩:=any_some H hk h.vw hst.2.2 h2 h3
   have hj:es[j]?=some e0:=by simpa using h2
   have hsame:es.modify j (fun e=>{e with key:=key})=es:=by
    apply Array.ext';rw[Array.toList_modify,ChangeMaps.modify_eq_set _ _ _ _ h2];refine List.ext_getElem? fun i=>?_
    rw[List.getElem?_set];split
    . rename_i e;subst e;rw[if_pos (List.getElem?_eq_some_iff.1 h2).1,h2,<- h3]
    . rfl
   refine .inl ⟨j,e0,p,h2,p1,p2,h3,p3,p4,?_⟩
   simp[Instr.mapEntry,run_underlying ht,MapKept.run_getObj_map hb,H.check w false hk,h1,hj,h3,H.stays w hk,MapKept.run_setObj_map _ hb,Result.andThen,setBlock,goInt,hsame]
theorem OJ(hst:MapKept.Stamped es clock){j:Nat}{e0:MapEntry}(hj:es.toList[j]?=some e0)(hb:w.heap[b]?=some (.map es clock)){val:Value}:
 (Instr.entryStore t (.map (some b)) (.int .i64 (e0.born:Int)) val).run P w=.ok () (setBlock w b (.map (es.modify j fun e=>{e with val:=val}) clock)):=by
 have hs:=(MapKept.stamped_iff es clock).1 hst
 have hjl:j<es.size:=by simpa using(List.getElem?_eq_some_iff.1 hj).1
 have hj':es[j]?=some e0:=by simpa using hj
 have hf:es.findIdx? (fun e=>(e.born:Int) == (e0.born:Int))=some j:=by
  rw[Array.findIdx?_eq_some_iff_getElem];have e1:es[j]=e0:=by rw[Array.getElem?_eq_getElem hjl]at hj';exact ax hj'
  refine⟨hjl,by rw[e1];simp,fun i hi=>?_⟩;have hil:i<es.size:=by omega
  intro hbe;have hbe:es[i].born=e0.born:=by have:=eq_of_beq hbe;omega
  have hnd:=List.pairwise_iff_getElem.1 (show List.Pairwise (· ≠ ·) (es.toList.map (·.born)) from hs.2.1) i j (by simpa using hil) (by simpa using hjl) hi;refine hnd ?_;simp only[List.getElem_map,Array.getElem_toList];rw[hbe,e1]
 simp[Instr.entryStore,MapKept.run_getObj_map hb,hf,MapKept.run_setObj_map _ hb,Result.andThen,setBlock,asInt,asIntOf]
theorem JL{μ:Type}(f:ν->μ)(l:List (κ×ν))(k:κ):gI eq (l.map fun p=>(p.1,f p.2)) k=(gI eq l k).map f:=by
 unfold gI;rw[List.find?_map];show((List.find? (fun p=>eq k p.1) l).map _).map _=_;cases List.find? (fun p=>eq k p.1) l<;>rfl
end
end
section
def bR.cat(L:List bR):bR:=
 ⟨bK L,fun b o=>∃e∈L,b∈e.blocks/\e.LH b o,fun w=>∀e∈L,e.ok w,
  fun w h b hb=>by
   obtain⟨e,he,hbe⟩:=dg.1 hb;exact e.lt w (h e he) b hbe,
  fun w w' h hs e he=>e.loc w w' (h e he) fun b hb=>hs b (dg.2 ⟨e,he,hb⟩)⟩
theorem qZ(L R:List bR):bK (bR.cat L::R)=bK (L++R):=by rw[eJ,c8];rfl
section
variable {B:List Nat}{m0 m:Mem}{L R:List bR}
theorem Ow.Kz(h:Ow m (bR.cat L::R)):Ow m (L++R):=
 ⟨by rw[<- qZ];exact h.nodup,fun e he=>by
  rcases bj.1 he with he|he
  . exact h.ok (bR.cat L) aq e he
  . exact h.ok e (au _ he),fun e he b hb o ho=>by
  rcases bj.1 he with he|he
  . exact h.apart (bR.cat L) aq b (dg.2 ⟨e,he,hb⟩) o ⟨e,he,hb,ho⟩
  . exact h.apart e (au _ he) b hb o ho⟩
theorem Ow.cat(h:Ow m (L++R)):Ow m (bR.cat L::R):=
 ⟨by rw[qZ];exact h.nodup,fun e he=>by
  rcases aB.1 he with rfl|he
  . exact fun x hx=>h.ok x (aU _ hx)
  . exact h.ok e (ba _ he),fun e he b hb o ho=>by
  rcases aB.1 he with rfl|he
  . obtain⟨x,hx,hbx,hox⟩:=ho;exact h.apart x (aU _ hx) b hbx o hox
  . exact h.apart e (ba _ he) b hb o ho⟩
theorem St.Kz(h:St B m0 m (bR.cat L::R)):St B m0 m (L++R):=⟨h.le,h.kept,h.news,h.ow.Kz,fun b hb=>h.mQ b (by rw[qZ];exact hb)⟩
theorem St.cat(h:St B m0 m (L++R)):St B m0 m (bR.cat L::R):=⟨h.le,h.kept,h.news,h.ow.cat,fun b hb=>h.mQ b (by rw[<- qZ];exact hb)⟩
end
end
end Go.Proofs.YtjfkdglgecgjfaaGreat
