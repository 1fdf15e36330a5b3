/- Part of the proof. -/
import Derived.Test.YtekpafdhgkocaaaGreatZET
import Derived.Shelf.Spec.SlicesInsertGrow
namespace Go.Proofs.YtekpafdhgkocaaaGreat
section
open Go.ChangeShapes Go.WideShapes Go.ChangeAt Go.RowKit G
namespace E
set_option maxRecDepth 100000 in
theorem afF{H:Type}{enc:TypeId×Value->H}{W:World}{base:Nat}{spare:Nat->Bool}{held:Bool}:I5 enc Tryz.prog W base spare held (RK KT (.st 4)) bN.Ok 72:=by
 intro fuel cs x h;obtain⟨xs,n,_,_,hl,hlen,hf⟩:=DataW.trod_struct Tryz.underlying72 h;have hl':cs.length=5:=hl.trans (by kernel_rfl)
 match xs,hlen with
 |[y0,y1,y2,y3,y4],_=>
  have z0:Tryz.prog.cellsOf 3=1:=by kernel_rfl
  have h0:DataW.trod enc Tryz.prog W base spare held n 3 ((cs.drop 0).take (Tryz.prog.cellsOf 3))=some y0:=hf 0 _ rfl
  rw[z0]at h0
  obtain⟨_,v0,r0,k0⟩:=(ym Tryz.underlying3 (by kernel_rfl)) n _ y0 h0
  have z1:Tryz.prog.cellsOf 3=1:=by kernel_rfl
  have h1:DataW.trod enc Tryz.prog W base spare held n 3 ((cs.drop 1).take (Tryz.prog.cellsOf 3))=some y1:=hf 1 _ rfl
  rw[z1]at h1
  obtain⟨_,v1,r1,k1⟩:=(ym Tryz.underlying3 (by kernel_rfl)) n _ y1 h1
  have z2:Tryz.prog.cellsOf 3=1:=by kernel_rfl
  have h2:DataW.trod enc Tryz.prog W base spare held n 3 ((cs.drop 2).take (Tryz.prog.cellsOf 3))=some y2:=hf 2 _ rfl
  rw[z2]at h2
  obtain⟨_,v2,r2,k2⟩:=(ym Tryz.underlying3 (by kernel_rfl)) n _ y2 h2
  have z3:Tryz.prog.cellsOf 3=1:=by kernel_rfl
  have h3:DataW.trod enc Tryz.prog W base spare held n 3 ((cs.drop 3).take (Tryz.prog.cellsOf 3))=some y3:=hf 3 _ rfl
  rw[z3]at h3
  obtain⟨_,v3,r3,k3⟩:=(ym Tryz.underlying3 (by kernel_rfl)) n _ y3 h3
  have z4:Tryz.prog.cellsOf 22=1:=by kernel_rfl
  have h4:DataW.trod enc Tryz.prog W base spare held n 22 ((cs.drop 4).take (Tryz.prog.cellsOf 22))=some y4:=hf 4 _ rfl
  rw[z4]at h4
  obtain⟨_,v4,r4,k4⟩:=(G3 (sz:=zK KT .u8) Tryz.underlying22 (by kernel_rfl) (by kernel_rfl) (ay (by kernel_rfl)) (Hh Tryz.underlying5 (by kernel_rfl))) n _ y4 h4
  exact⟨hl,(⟨v0,v1,v2,v3,v4⟩:bN),(KT.spec 4 (Mem.all W) (⟨v0,v1,v2,v3,v4⟩:bN) cs).2 ⟨_,_,sV cs 0 1 1 rfl,r0,_,_,sV cs 1 1 2 rfl,r1,_,_,sV cs 2 1 3 rfl,r2,_,_,sV cs 3 1 4 rfl,r3,_,_,sV cs 4 1 5 rfl,r4,Uf cs 5 hl'⟩,⟨(W1 k0),(W1 k1),(W1 k2),(W1 k3),k4.1⟩⟩
set_option maxRecDepth 100000 in
theorem ae0{H:Type}{enc:TypeId×Value->H}{W:World}{base:Nat}{spare:Nat->Bool}{held:Bool}:I5 enc Tryz.prog W base spare held (RK KT (.st 6)) bZ.Ok 27:=by
 intro fuel cs x h;obtain⟨xs,n,_,_,hl,hlen,hf⟩:=DataW.trod_struct Tryz.underlying27 h;have hl':cs.length=67:=hl.trans (by kernel_rfl)
 match xs,hlen with
 |[y0,y1,y2,y3,y4],_=>
  have z0:Tryz.prog.cellsOf 3=1:=by kernel_rfl
  have h0:DataW.trod enc Tryz.prog W base spare held n 3 ((cs.drop 0).take (Tryz.prog.cellsOf 3))=some y0:=hf 0 _ rfl
  rw[z0]at h0
  obtain⟨_,v0,r0,k0⟩:=(ym Tryz.underlying3 (by kernel_rfl)) n _ y0 h0
  have z1:Tryz.prog.cellsOf 3=1:=by kernel_rfl
  have h1:DataW.trod enc Tryz.prog W base spare held n 3 ((cs.drop 1).take (Tryz.prog.cellsOf 3))=some y1:=hf 1 _ rfl
  rw[z1]at h1
  obtain⟨_,v1,r1,k1⟩:=(ym Tryz.underlying3 (by kernel_rfl)) n _ y1 h1
  have z2:Tryz.prog.cellsOf 24=32:=by kernel_rfl
  have h2:DataW.trod enc Tryz.prog W base spare held n 24 ((cs.drop 2).take (Tryz.prog.cellsOf 24))=some y2:=hf 2 _ rfl
  rw[z2]at h2
  obtain⟨_,v2,r2,k2⟩:=(KO (n:=32) Tryz.underlying24 Tryz.underlying5 (by kernel_rfl) (by kernel_rfl) (by decide)) n _ y2 h2
  have z3:Tryz.prog.cellsOf 24=32:=by kernel_rfl
  have h3:DataW.trod enc Tryz.prog W base spare held n 24 ((cs.drop 34).take (Tryz.prog.cellsOf 24))=some y3:=hf 3 _ rfl
  rw[z3]at h3
  obtain⟨_,v3,r3,k3⟩:=(KO (n:=32) Tryz.underlying24 Tryz.underlying5 (by kernel_rfl) (by kernel_rfl) (by decide)) n _ y3 h3
  have z4:Tryz.prog.cellsOf 25=1:=by kernel_rfl
  have h4:DataW.trod enc Tryz.prog W base spare held n 25 ((cs.drop 66).take (Tryz.prog.cellsOf 25))=some y4:=hf 4 _ rfl
  rw[z4]at h4
  obtain⟨_,v4,r4,k4⟩:=(G3 (sz:=zK KT (.st 4)) Tryz.underlying25 (by kernel_rfl) (by kernel_rfl) (ay (by kernel_rfl)) afF) n _ y4 h4
  exact⟨hl,(⟨v0,v1,v2,v3,v4⟩:bZ),(KT.spec 6 (Mem.all W) (⟨v0,v1,v2,v3,v4⟩:bZ) cs).2 ⟨_,_,sV cs 0 1 1 rfl,r0,_,_,sV cs 1 1 2 rfl,r1,_,_,sV cs 2 32 34 rfl,r2,_,_,sV cs 34 32 66 rfl,r3,_,_,sV cs 66 1 67 rfl,r4,Uf cs 67 hl'⟩,⟨(W1 k0),(W1 k1),⟨k4.1,fun y hy=>(k4.2 y hy)⟩⟩⟩
end E
end
section
open Go.RowKit Go.Shelf G
theorem G2{T:TypeId}(b:Nat):∀(vs:List Value) (o:Nat) (w:World) (cs:Array Value),w.heap[b]?=some (.cells cs T (0,0))->o+vs.length<=cs.size->(w.setCells b o vs).heap[b]?=some (.cells (putAt cs o vs) T (0,0))/\w.grownBy (w.setCells b o vs) (some b)/\(w.setCells b o vs).heap.size=w.heap.size
 |[],o,w,cs,hb,_=>by
  refine⟨?_,⟨rfl,rfl,rfl,Nat.le_refl _,fun _ _ _=>rfl⟩,rfl⟩;have:putAt cs o []=cs:=by unfold putAt;simp
  rw[this];exact hb
 |v::vs,o,w,cs,hb,hf=>by
  simp only[bK]at hf;have h1:(w.setCell ⟨b,o,none⟩ v).heap[b]?=some (.cells (cs.setIfInBounds o v) T (0,0)):=by
   unfold World.setCell;simp[Array.getElem?_modify,hb]
  obtain⟨k1,k2,k3⟩:=G2 b vs (o+1) (w.setCell ⟨b,o,none⟩ v) _ h1 (by simp;omega);have hs:(w.setCell ⟨b,o,none⟩ v).heap.size=w.heap.size:=by simp[World.setCell]
  have e:putAt (cs.setIfInBounds o v) (o+1) vs=putAt cs o (v::vs):=by
   apply Array.ext_getElem?;intro q;rw[qx _ _ _ (by simp;omega),qx _ _ _ (by simp;omega),bK];by_cases hq:o+1<=q/\q<o+1+vs.length
   . rw[if_pos hq,if_pos ⟨by omega,by omega⟩,show q-o=(q-(o+1))+1 by omega,List.getElem?_cons_succ]
   . rw[if_neg hq,Array.getElem?_setIfInBounds];by_cases hqo:o=q
     . subst hqo;rw[if_pos rfl,if_pos (by omega),if_pos ⟨by omega,by omega⟩,Nat.sub_self];rfl
     . rw[if_neg hqo,if_neg (by omega)]
  refine⟨by rw[<- e];exact k1,⟨k2.os,k2.tape,k2.output,by rw[<- hs];exact k2.size,fun c hc hn=>?_⟩,k3.trans hs⟩;rw[World.setCells,k2.block c (by rw[hs];exact hc) hn];have hcb:b≠c:=fun e=>hn (by rw[e])
  simp[World.setCell,Array.getElem?_modify,hcb]
theorem St.setCells{B:List Nat}{m0 m:Mem}{b:Nat}{cs:Array Value}{T:TypeId}{R:List cp}(h:St B m0 m (.box b cs T::R))(o:Nat)(vs:List Value)(hf:o+vs.length<=cs.size):St B m0 ⟨m.w.setCells b o vs,m.ok⟩ (.box b (putAt cs o vs) T::R):=
 let⟨k1,k2,k3⟩:=G2 b vs o m.w cs (h.Jc 0 rfl) hf
 h.write k2 k3 k1
section
variable {m:Mem}{k:IntKind}{g:Option Nat}{cs:Array Value}{ad:Option Addr}{cap:Nat}{l:List Int}
theorem QF:∀l:List Int,(l.map fun u=>[Value.int k u]).flatten=l.map (Value.int k)
 |[]=>rfl
 |u::l=>by rw[aO,List.flatten_cons,QF l];rfl
theorem LQ:∀{l:List Int} {css:List (List Value)},css.length=l.length->(∀(i:Nat) (x:Int) (c:List Value),l[i]?=some x->css[i]?=some c->c.length=1/\isNum k m x c)->css.flatten=l.map (Value.int k)
 |[],css,h,_=>by rw[List.length_eq_zero_iff.1 h];rfl
 |x::l,[],h,_=>by simp at h
 |x::l,c::css,h,h2=>by
  have:=(h2 0 x c rfl rfl).2;unfold isNum at this;subst this;rw[List.flatten_cons,LQ (css:=css) (l:=l) (by simpa using h) fun i y d hy hd=>h2 (i+1) y d (by simpa using hy) (by simpa using hd)];rfl
theorem km.SG(h:km (isNum k) m 1 g cs ad cap l):0<cap->∃b o,g=some b/\ad=some ⟨b,o,none⟩/\(∀j u,l[j]?=some u->cs[o+j]?=some (.int k u))/\o+cap<=cs.size:=by
 intro hc;obtain⟨css,h1,h2,_,_,_,h6⟩:=h;obtain⟨b,o,hg,ha,h7,hrm⟩:=h6 hc;rw[LQ (css:=css) h1 h2]at h7;exact⟨b,o,hg,ha,fun j u hu=>h7 j _ (by rw[List.getElem?_map,hu];rfl),by simpa using hrm⟩
theorem km.Pv{b ofs:Nat}(hl:l.length<=cap)(hm:cap<=maxLen)(h:∀j u,l[j]?=some u->cs[ofs+j]?=some (.int k u))(hrm:ofs+cap<=cs.size):km (isNum k) m 1 (some b) cs (some ⟨b,ofs,none⟩) cap l:=by
 refine⟨l.map fun u=>[.int k u],by simp,fun i u c hu hc=>?_,hl,hm,(fun h=>by cases h),fun _=>⟨b,ofs,rfl,rfl,fun j v hv=>?_,by simpa using hrm⟩⟩
 . rw[List.getElem?_map,hu]at hc;cases hc;exact⟨rfl,rfl⟩
 . rw[QF,List.getElem?_map]at hv
   cases hu:l[j]? with
   |none=>rw[hu]at hv;cases hv
   |some u=>rw[hu]at hv;cases hv;exact h j u hu
theorem gX.slN(h:gX (isNum k) m 1 ad cap l):Sl m 1 ad l.length cap (l.map (Value.int k)):=by
 obtain⟨css,h1,h2,h3⟩:=h;rw[LQ (css:=css) h2 h3]at h1;exact h1
end
section
variable {P:Program}{ρ:Go.Shelf.Ren}
def QS(l:List Int)(j:Nat)(v:List Int):List Int:=l.take j++(v++l.drop j)
theorem X6{l:List Int}{j:Nat}{v:List Int}(h:j<=l.length):(QS l j v).length=l.length+v.length:=by unfold QS;simp;omega
theorem Ak{l:List Int}{j:Nat}{v:List Int}(h:j<=l.length)(q:Nat):(QS l j v)[q]?=if q<j then l[q]? else if q<j+v.length then v[q-j]? else l[q-v.length]?:=by
 unfold QS;have hl:(l.take j).length=j:=by simp;omega
 by_cases h1:q<j
 . rw[if_pos h1,List.getElem?_append_left (by omega),List.getElem?_take,if_pos h1]
 . rw[if_neg h1,List.getElem?_append_right (by omega),hl];by_cases h2:q<j+v.length
   . rw[if_pos h2,List.getElem?_append_left (by omega)]
   . rw[if_neg h2,List.getElem?_append_right (by omega),List.getElem?_drop,show j+(q-j-v.length)=q-v.length by omega]
theorem PY(n:Nat):(Builtin.zeroCells (Value.int .i64 0).cells n).size=n:=by
 unfold Builtin.zeroCells;simp[Value.cells]
theorem aaM(L:Lays2.n21 P ρ){m:Mem}{g0 g1:Option Nat}{cs0:Array Value}{ad a1:Option Addr}{cap c1 s1 n1:Nat}{l v:List Int}{j:Nat}(hO:Ow m [cp.arr g0 cs0 (ρ.t 3),cp.row g1 (ρ.t 3) s1 n1])(hA:km (isNum .i64) m 1 g0 cs0 ad cap l)
 (hv:gX (isNum .i64) m 1 a1 c1 v) (hg:∀b o,a1=some ⟨b,o,none⟩->g1=some b) (hpos:0<v.length) (hj:j<=l.length) (hbig:(l.length+v.length)*8<=140737488355328):
 Calls P (ρ.f 21) #[.slice ad l.length cap,.int .i64 (j:Int),.slice a1 v.length c1] m.w fun ee w'=>∃(g:Option Nat) (cs:Array Value) (a:Option Addr) (c:Nat) (m':Mem),ee=.returned (.slice a (QS l j v).length c)/\m'.w=w'/\
  St (bW [cp.arr g0 cs0 (ρ.t 3),cp.row g1 (ρ.t 3) s1 n1]) m m' [.arr g cs (ρ.t 3)]/\km (isNum .i64) m' 1 g cs a c (QS l j v):=by
 have hsl:=hv.slN
 obtain⟨vb,vo,rfl,hat⟩:=hsl.at (by simpa using hpos)
 have hg1:=hg vb vo rfl
 subst hg1
 obtain⟨cur,hcur,_⟩:=hO.ok (cp.row (some vb) (ρ.t 3) s1 n1) (by simp) vb rfl
 have hA63:=hA.Ao
 have hlen:=X6 (l:=l) (v:=v) hj
 have hvs:∀(q:Nat) (u:Value),(v.map (Value.int .i64))[q]?=some u->m.w.cell? ⟨vb,vo+q,none⟩=some u:=fun q u hu=>(hat q u hu).2
 have h1v:∀u∈v.map (Value.int .i64),u.oneCell'=true:=fun u hu=>by
  obtain⟨x,_,rfl⟩:=List.mem_map.1 hu;rfl
 have h1c:∀u∈l.map (Value.int .i64),u.oneCell'=true:=fun u hu=>by
  obtain⟨x,_,rfl⟩:=List.mem_map.1 hu;rfl
 have hz0:∀b,g0=some b->m.w.heap[b]?=some (.cells cs0 (ρ.t 3) (0,0)):=hO.ok (cp.arr g0 cs0 (ρ.t 3)) (by simp)
 by_cases hroom:l.length+v.length<=cap
 . obtain⟨b,off,rfl,rfl,hcell,hrm⟩:=hA.SG (by omega)
   have hb:=hz0 b rfl
   have hvb:vb≠b:=fun e=>by
    have:=hO.nodup;simp[cp.arr,cp.row]at this;exact this e.symm
   have hS:St (bW [cp.arr (some b) cs0 (ρ.t 3),cp.row (some vb) (ρ.t 3) s1 n1]) m m [.box b cs0 (ρ.t 3),.row (some vb) (ρ.t 3) s1 n1]:=(St.refl hO).toBox
   have hsp:∀q,q<cap->(m.w.cell? ⟨b,off+q,none⟩).isSome=true:=fun q hq=>by
    unfold World.cell?;simp[hb];omega
   have hfz:∀q,m.w.frozen? ⟨b,off+q,none⟩=false:=fun q=>by unfold World.frozen?;simp[hb]
   by_cases hin:j<l.length
   . refine(Any2.slices_Insert_int_shift L b off l.length cap j vb vo v.length c1 (l.map (.int .i64)) (v.map (.int .i64)) m.w hin hpos hroom hA63.2.1 hvb (by simp) (by simp) (fun q u hu=>?_) (fun q hq=>hsp q (by omega)) (fun q _=>hfz q) hvs h1c h1v (ρ.t 3) (ρ.t 3) cur.size cs0.size ?_ ?_ (by omega) ?_ ?_).mono fun ee w' ⟨he,hw⟩=>?_
     . rw[List.getElem?_map]at hu
       cases hx:l[q]? with
       |none=>rw[hx]at hu;cases hu
       |some x=>rw[hx]at hu;cases hu;unfold World.cell?;simp[hb,hcell q x hx]
     . unfold World.shape?;simp[hcur]
     . unfold World.shape?;simp[hb]
     . unfold World.frozen?;simp[hcur]
     . unfold World.frozen?;simp[hcur]
     . have f1:off+(j+v.length)+((l.map (Value.int .i64)).drop j).length<=cs0.size:=by simp;omega
       have hp1:=qx cs0 (off+(j+v.length)) ((l.map (Value.int .i64)).drop j) f1
       have hps:(putAt cs0 (off+(j+v.length)) ((l.map (Value.int .i64)).drop j)).size=cs0.size:=by
        unfold putAt;simp;omega
       have f2:off+j+(v.map (Value.int .i64)).length<=(putAt cs0 (off+(j+v.length)) ((l.map (Value.int .i64)).drop j)).size:=by rw[hps];simp;omega
       have hp2:=qx _ (off+j) (v.map (Value.int .i64)) f2
       have k:=((hS.drew.setCells _ _ f1).setCells _ _ f2).toArr.UD
       refine⟨some b,_,some ⟨b,off,none⟩,cap,_,by rw[he,hlen],hw.symm,k,km.Pv (by omega) (by unfold maxLen;omega) (fun q u hu=>?_) (by
        have:(putAt (putAt cs0 (off+(j+v.length)) ((l.map (Value.int .i64)).drop j)) (off+j) (v.map (Value.int .i64))).size=cs0.size:=by
         rw[<- hps];unfold putAt;simp;omega
        omega)⟩
       rw[Ak hj]at hu
       rw[hp2,hp1,aJ,aV,aJ]
       have hql:q<l.length+v.length:=by
        rw[<- Ak hj]at hu;have:=(List.getElem?_eq_some_iff.1 hu).1;omega
       by_cases q1:q<j
       . rw[if_pos q1]at hu
         rw[if_neg (by omega),if_neg (by omega)];exact hcell q u hu
       . rw[if_neg q1]at hu
         by_cases q2:q<j+v.length
         . rw[if_pos q2]at hu
           rw[if_pos (by omega),show off+q-(off+j)=q-j by omega,List.getElem?_map,hu];rfl
         . rw[if_neg q2]at hu
           rw[if_neg (by omega),if_pos (by omega),List.getElem?_drop,List.getElem?_map,show j+(off+q-(off+(j+v.length)))=q-v.length by omega,hu];rfl
   . obtain rfl:j=l.length:=by omega
     refine(Any2.slices_Insert_int_end_room L b off l.length cap vb vo v.length c1 (v.map (.int .i64)) m.w hpos hroom hA63.2.1 (by simp) (fun q hq=>by rw[Nat.add_assoc];exact hsp _ (by omega)) (fun q _=>by rw[Nat.add_assoc];exact hfz _) hvs h1v).mono fun ee w' ⟨he,hw⟩=>?_
     have f1:off+l.length+(v.map (Value.int .i64)).length<=cs0.size:=by simp;omega
     have hp1:=qx cs0 (off+l.length) (v.map (Value.int .i64)) f1
     refine⟨some b,_,some ⟨b,off,none⟩,cap,_,by rw[he,hlen],hw.symm,(hS.setCells _ _ f1).toArr.UD,km.Pv (by omega) (by unfold maxLen;omega) (fun q u hu=>?_) (by
      have:(putAt cs0 (off+l.length) (v.map (Value.int .i64))).size=cs0.size:=by unfold putAt;simp;omega
      omega)⟩
     rw[Ak hj]at hu
     rw[hp1,aJ]
     by_cases q1:q<l.length
     . rw[if_pos q1]at hu
       rw[if_neg (by omega)];exact hcell q u hu
     . rw[if_neg q1]at hu
       by_cases q2:q<l.length+v.length
       . rw[if_pos q2]at hu
         rw[if_pos (by omega),show off+q-(off+l.length)=q-l.length by omega,List.getElem?_map,hu];rfl
       . rw[if_neg q2]at hu
         have:=(List.getElem?_eq_some_iff.1 hu).1;omega
 . have hge:=grownCap_ge m.w (l.length+v.length) cap (ρ.t 3)
   have hmx:=grownCap_le_maxLen m.w (l.length+v.length) cap (ρ.t 3) (by unfold maxLen;omega)
   generalize hgc:grownCap m.w (l.length+v.length) cap (ρ.t 3)=gc at*
   by_cases hin:j<l.length
   . obtain⟨b,off,rfl,rfl,hcell,hrm⟩:=hA.SG (by omega)
     have hb:=hz0 b rfl
     refine(Any2.slices_Insert_int_grow L b off l.length cap j vb vo v.length c1 (l.map (.int .i64)) (v.map (.int .i64)) m.w hin hpos hA63.2.2 (by omega) hbig (by simp) (by simp) (fun q u hu=>?_) hvs h1c h1v).mono fun ee w' ⟨he,hw⟩=>?_
     . rw[List.getElem?_map]at hu
       cases hx:l[q]? with
       |none=>rw[hx]at hu;cases hu
       |some x=>rw[hx]at hu;cases hu;unfold World.cell?;simp[hb,hcell q x hx]
     . rw[hgc]at he hw
       obtain⟨X,hX⟩:∃X,X=(((l.map (Value.int .i64)).take j).toArray++Builtin.zeroCells (Value.int .i64 0).cells (l.length+v.length-j)++Builtin.zeroCells (Value.int .i64 0).cells (gc-(l.length+v.length))):=⟨_,rfl⟩
       have hXs:X.size=gc:=by rw[hX,Array.size_append,Array.size_append,PY,PY];simp;omega
       rw[<- hX]at hw
       have f1:j+(v.map (Value.int .i64)).length<=X.size:=by rw[hXs];simp;omega
       have hp1:=qx X j (v.map (Value.int .i64)) f1
       have hps:(putAt X j (v.map (Value.int .i64))).size=gc:=by rw[<- hXs];unfold putAt;simp;simp at f1;omega
       have f2:j+v.length+((l.map (Value.int .i64)).drop j).length<=(putAt X j (v.map (Value.int .i64))).size:=by rw[hps];simp;omega
       have hp2:=qx _ (j+v.length) ((l.map (Value.int .i64)).drop j) f2
       have k:=((((St.refl hO).CJ X (ρ.t 3)).drew.setCells _ _ f1).drew.setCells _ _ f2).toArr.UD
       refine⟨some m.w.heap.size,_,some ⟨m.w.heap.size,0,none⟩,gc,_,by rw[he,hlen],hw.symm,k,km.Pv (by omega) hmx (fun q u hu=>?_) (by
        have:(putAt (putAt X j (v.map (Value.int .i64))) (j+v.length) ((l.map (Value.int .i64)).drop j)).size=gc:=by
         rw[<- hps];unfold putAt;simp;simp[hps]at f2;omega
        omega)⟩
       rw[Ak hj]at hu
       rw[bc,hp2,hp1,aV,aJ,aJ]
       have hql:q<l.length+v.length:=by
        rw[<- Ak hj]at hu;have:=(List.getElem?_eq_some_iff.1 hu).1;omega
       by_cases q1:q<j
       . rw[if_pos q1]at hu
         rw[if_neg (by omega),if_neg (by omega),hX,Array.append_assoc,Array.getElem?_append_left (by simp;omega),List.getElem?_toArray,List.getElem?_take,if_pos q1,List.getElem?_map,hu];rfl
       . rw[if_neg q1]at hu
         by_cases q2:q<j+v.length
         . rw[if_pos q2]at hu
           rw[if_neg (by omega),if_pos (by omega),List.getElem?_map,hu];rfl
         . rw[if_neg q2]at hu
           rw[if_pos (by omega),List.getElem?_drop,List.getElem?_map,show j+(q-(j+v.length))=q-v.length by omega,hu];rfl
   . obtain rfl:j=l.length:=by omega
     have hnil:ad=none->l.length=0:=fun e=>by
      have:=hA;obtain⟨_,_,_,h3,_,h5,_⟩:=this;have:=h5 e;omega
     refine(Any2.slices_Insert_int_end_grow L ad l.length cap vb vo v.length c1 (l.map (.int .i64)) (v.map (.int .i64)) m.w hpos hA63.2.2 (by omega) hbig (by simp) (by simp) hnil (fun A hA' q u hu=>?_) hvs h1v).mono fun ee w' ⟨he,hw⟩=>?_
     . rw[List.getElem?_map]at hu
       cases hx:l[q]? with
       |none=>rw[hx]at hu;cases hu
       |some x=>
        rw[hx]at hu;cases hu
        have:=(List.getElem?_eq_some_iff.1 hx).1
        obtain⟨b,off,rfl,e,hcell,hrm⟩:=hA.SG (by omega)
        rw[hA']at e;cases e
        have hb:=hz0 b rfl
        rw[Addr.add_mid]
        unfold World.cell?;simp[hb,hcell q x hx]
     . rw[hgc]at he hw
       obtain⟨X,hX⟩:∃X,X=((l.map (Value.int .i64)++v.map (Value.int .i64)).toArray++Builtin.zeroCells (Value.int .i64 0).cells (gc-(l.length+v.length))):=⟨_,rfl⟩
       have hXs:X.size=gc:=by rw[hX,Array.size_append,PY];simp;omega
       rw[<- hX]at hw
       have k:=((St.refl hO).drew.CJ X (ρ.t 3)).toArr.UD
       refine⟨some m.w.heap.size,X,some ⟨m.w.heap.size,0,none⟩,gc,_,by rw[he,hlen],hw.symm,k,km.Pv (by omega) hmx (fun q u hu=>?_) (by omega)⟩
       have hql:q<l.length+v.length:=by have:=(List.getElem?_eq_some_iff.1 hu).1;omega
       rw[Ak hj]at hu
       rw[bc,hX,Array.getElem?_append_left (by simp;omega),List.getElem?_toArray]
       by_cases q1:q<l.length
       . rw[if_pos q1]at hu
         rw[List.getElem?_append_left (by simpa using q1),List.getElem?_map,hu];rfl
       . rw[if_neg q1,if_pos hql]at hu
         rw[List.getElem?_append_right (by simp;omega),aJ,List.getElem?_map,hu];rfl
end
namespace E
variable {S:Nat->Type}{tb:Tb S}
theorem Pf{P:Program}{ρ:Go.Shelf.Ren}{K:ju tb}(L:Lays2.n21 P ρ){f:FuncId}{e:TypeId}(hf:ρ.f 21=f)(he:ρ.t 3=e)(hle:Nat.ble f 999999=true)(hen:Enters P f):
 Sound P K ({f:=f,ins:=[.one (.aw 0),.one (.cX (.int .i64)),.one (.rw 1 (.int .i64))],eW:=[.arr e (.int .i64) false,.row e (.int .i64)],ls:=[.int .i64,.sl (.int .i64),.sl (.int .i64)],outs:=[{out:=.one (.aw 2),lB:=[.gone,.gone,.now (.arr e (.int .i64) false)],Bl:=[.sl (.int .i64)]}],pJ:=fun x=>Al x.1 x.2.1 x.2.2}:cU S):=by
 subst hf;subst he
 refine⟨fun x y bk m vals Lx hsem hbk hin hLn hO hBm=>?_⟩
 obtain⟨i,v,l⟩:=x
 have h0:=hin [⟨.int .i64,i⟩,⟨.sl (.int .i64),v⟩,⟨.sl (.int .i64),l⟩] [.one (.aw 0),.one (.int .i64 i),.one (.rw 1 (.int .i64) v)] [⟨.sl (.int .i64),l⟩] [.arr (ρ.t 3) (.int .i64) false l,.row (ρ.t 3) (.int .i64)] [] rfl rfl rfl
 obtain⟨h1,h2⟩:=h0
 simp only[fO,cn,b7]at h1
 obtain⟨_,_,rfl,⟨gh0,hg0,e1⟩,_,_,rfl,e2,_,_,rfl,⟨gh1,l0,ad1,hg1,e3,hE,hE0,hn1,had⟩,rfl⟩:=h1
 simp only[bw,and_true]at e1 e2 e3
 subst e1;subst e2;subst e3
 simp only[Sb,xo]at h2
 obtain⟨en0,_,rfl,⟨gh0',cs,hg0',hlen,rfl,hA,_⟩,en1,_,rfl,⟨gh1',hg1',rfl⟩,rfl⟩:=h2
 obtain rfl:gh0=gh0':=ar (hg0.symm.trans hg0')
 obtain rfl:gh1=gh1':=ar (hg1.symm.trans hg1')
 have hs:Al i v l=some (show List Int from y):=hsem
 unfold Al at hs
 split at hs
 . rename_i hc
   obtain⟨c1,c2,c3,c4⟩:=hc
   have hy:=ar hs
   obtain⟨j,rfl⟩:=Int.eq_ofNat_of_zero_le c1
   rw[aM]at hy
   unfold B9
   rw[if_pos (ay hle)]
   have hlc:List.length (α:=Int) l0+List.length (α:=Int) v<=gh1.cap:=Nat.le_trans (Nat.le_of_eq (@List.length_append Int l0 v).symm) hE0.Ao.2.2
   have hx:=aaM L (s1:=gh1.cap*zK K (.int .i64)) (n1:=gh1.n*zK K (.int .i64)) hO hA hE (fun b o hb=>by
    have hlt:List.length (α:=Int) l0<gh1.cap:=by have:0<List.length (α:=Int) v:=c3;omega
    have hh:=had hlt;rw[hb]at hh;unfold jw at hh
    cases hg:gh1.g with
    |none=>rw[hg]at hh;simp[mZ]at hh
    |some b'=>
     rw[hg]at hh
     split at hh
     . simp[mZ]at hh;rw[hh.1]
     . simp[mZ,Addr.add_mid]at hh;rw[hh.1]) c3 (Int.ofNat_le.1 c2) c4
   rw[<- hlen]
   refine⟨hen,hx.mono fun ee w' ⟨g,cs',a,c,m',q1,q2,q3,q4⟩=>?_⟩
   refine⟨_,m',[.arr g cs' (ρ.t 3)],q1,q2,q3,?_⟩
   show I8 K 2 _ bk _ y _ m' _
   have hy':QS l j v=y:=hy
   refine⟨fun q=>if q=2 then some ⟨g,a,c,(QS l j v).length,default⟩else bk q,[.arr g cs' (ρ.t 3)],rfl,fun q hq=>if_neg (by omega),fun q hq=>?_,fun g2 ids ds out ds1 ll hgb hd hfill houts=>?_⟩
   . have hq:3<=q:=hq
     have hq2:¬ q=2:=fun e=>by rw[e]at hq;exact absurd hq (by decide)
     exact(if_neg hq2).trans (hbk q (Nat.le_of_succ_le hq))
   . have hd:some [(⟨.sl (.int .i64),y⟩:qh S)]=some ds:=hd
     cases hd
     have hfill:some (AV.one (.aw (ids 2)),[(⟨.sl (.int .i64),y⟩:qh S)])=some (out,ds1):=hfill
     cases hfill
     have houts:some [(ids 2,AO.arr (S:=S) (ρ.t 3) (.int .i64) false y)]=some ll:=houts
     cases houts
     have hb2:=hgb 2 _ (if_pos rfl)
     refine⟨?_,_,[],rfl,?_,rfl⟩
     . simp only[cn,b7];exact⟨_,hb2,rfl⟩
     . simp only[xo]
       refine⟨_,cs',hb2,by rw[<- hy'];rfl,rfl,by rw[<- hy'];exact q4,fun h=>by cases h⟩
 . cases hs
end E
end
section
def Tc:Go.Shelf.Ren:=⟨fun|21=>245|27=>273|28=>274|35=>287|39=>292|n=>n,fun|22=>56|3=>3|4=>4|0=>0|n=>n,fun|n=>n⟩
theorem adj:Go.Proofs.Lays2.n21 Tryz.prog Tc:={
 mixed:=by kernel_rfl
 f21:=Tryz.func245.trans (congrArg some (by kernel_rfl))
 f27:=Tryz.func273.trans (congrArg some (by kernel_rfl))
 f28:=Tryz.func274.trans (congrArg some (by kernel_rfl))
 f35:=Tryz.func287.trans (congrArg some (by kernel_rfl))
 f39:=Tryz.func292.trans (congrArg some (by kernel_rfl))
 t0:=Tryz.underlying0
 a0:=Tryz.isAgg0
 z0:=Tryz.sizeOf0
 v0:=Tryz.zeroValue0
 t3:=Tryz.underlying3
 a3:=Tryz.isAgg3
 z3:=Tryz.sizeOf3
 v3:=Tryz.zeroValue3
 t4:=Tryz.underlying4
 a4:=Tryz.isAgg4
 z4:=Tryz.sizeOf4
 v4:=Tryz.zeroValue4
 t22:=Tryz.underlying56
 a22:=Tryz.isAgg56
 z22:=Tryz.sizeOf56
 v22:=Tryz.zeroValue56
 i3:=by kernel_rfl}
end
end Go.Proofs.YtekpafdhgkocaaaGreat
