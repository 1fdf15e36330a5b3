/- Part of the proof. -/
import Derived.Test.YtjfkdglgecgjfaaGreatZEG
import Derived.WalkKit
import Derived.Deep.MidRow
import Derived.Deep.QuietTactic
import Derived.BigQuiet
import Derived.Deep.RegionWith
import Derived.Lib.Hide
import Derived.WalkSpells
import Derived.Lib.SlBytesConst
import Derived.Laws.BytesArg
import Derived.Deep.AppendSrc
import Derived.RangeFuncRecord
import Derived.OrdersIn
import Derived.TacticsIn
import Derived.ChangeKeysEq
namespace Go.Proofs.YtjfkdglgecgjfaaGreat
section
open G
namespace G
theorem Mf:cD=some ⟨1,0⟩:=by
 unfold cD bP;rfl
theorem pS(n:List UInt8)(a0:Int)(h:gy a0=some n):
 ((cx).bind fun y4=>
   (fo).bind fun y5=>
   if y5=true then
    (gy a0).bind fun y6=>
    if y6=n then
     (c7).bind fun y7=>
     if y7=(0:Int)then
      (dh).bind fun y8=>
      if y8=(0:Int)then
       (c8).bind fun y9=>
       if y9=(0:Int)then
        (dj).bind fun y10=>
        if y10=(0:Int)then
         if y4.1=false then
          if y4.2=(1:Int)then
           (bP).bind fun y11=>
           if y11.code=(1:Int)/\y11.at_=(0:Int)then
            (cD).bind fun y12=>
            some (decide (y12.code=(1:Int)/\y12.at_=(0:Int)))
           else some false
          else some false
         else some false
        else some false
       else some false
      else some false
     else some false
    else some false
   else some false)=some true:=by
 rw[h,Mf]
 unfold cx fo c7 dh c8 dj bP
 simp
end G
theorem G.jd(a0:Int)(_:QJ a0):eM a0=some true:=by
 unfold eM;by_cases h0:a0=0
 . subst h0;exact pS _ 0 rfl
 by_cases h1:a0=1
 . subst h1;exact pS _ 1 rfl
 by_cases h2:a0=2
 . subst h2;exact pS _ 2 rfl
 have hn:gy a0=some []:=by
  unfold gy;rw[if_neg h0,if_neg h1,if_neg h2]
 by_cases hp:a0≥0
 . rw[if_pos hp];have:decide (a0<=2)=false:=decide_eq_false (by omega);rw[this];exact pS [] a0 hn
 . rw[if_neg hp];exact pS [] a0 hn
end
section
open Go.RowKit
structure Mem where
 w:World
 im:Nat->Nat->Prop
def Mem.ok(m:Mem)(b o:Nat):Prop:=m.im b o/\b<m.w.heap.size
structure Le(m m':Mem):Prop where
 os:m'.w.os=m.w.os
 tape:m'.w.tape=m.w.tape
 output:m'.w.output=m.w.output
 size:m.w.heap.size<=m'.w.heap.size
 same:∀b o,m.ok b o->m'.ok b o/\m'.w.cell? ⟨b,o,none⟩=m.w.cell? ⟨b,o,none⟩
theorem Le.refl(m:Mem):Le m m:=⟨rfl,rfl,rfl,Nat.le_refl _,fun _ _ h=>⟨h,rfl⟩⟩
theorem Le.trans{a b c:Mem}(h:Le a b)(k:Le b c):Le a c:=
 ⟨k.os.trans h.os,k.tape.trans h.tape,k.output.trans h.output,Nat.le_trans h.size k.size,fun x o hx=>
  ⟨(k.same x o (h.same x o hx).1).1,((k.same x o (h.same x o hx).1).2).trans (h.same x o hx).2⟩⟩
structure bB where
 blocks:List Nat
 BV:Nat->Nat->Prop
 ok:World->Prop
 lt:∀w,ok w->∀b∈blocks,b<w.heap.size
 loc:∀w w',ok w->(∀b∈blocks,w'.heap[b]?=w.heap[b]?)->ok w'
theorem gQ{w:World}{b:Nat}{o:Obj}(h:w.heap[b]?=some o):b<w.heap.size:=(Array.getElem?_eq_some_iff.1 h).1
def bB.box(b:Nat)(cs:Array Value)(T:TypeId):bB:=
 ⟨[b],fun _ _=>True,fun w=>w.heap[b]?=some (.cells cs T (0,0)),fun w h c hc=>by simp at hc;subst hc;exact gQ h,
  fun w w' h hs=>by rw[hs b (by simp)];exact h⟩
def bB.obj(b:Nat)(o:Obj):bB:=
 ⟨[b],fun _ _=>True,fun w=>w.heap[b]?=some o,fun w h c hc=>by simp at hc;subst hc;exact gQ h,
  fun w w' h hs=>by rw[hs b (by simp)];exact h⟩
def bB.row(g:Option Nat)(T:TypeId)(size n:Nat):bB:=
 ⟨g.toList,fun _ o=>n<=o,fun w=>∀b,g=some b->∃cur,w.heap[b]?=some (.cells cur T (0,0))/\cur.size=size,
  fun w h c hc=>by
   have:g=some c:=by cases g<;>simp_all
   obtain⟨cur,h1,_⟩:=h c this;exact gQ h1,
  fun w w' h hs b hb=>by
   obtain⟨cur,h1,h2⟩:=h b hb;exact⟨cur,by rw[hs b (by rw[hb];simp)];exact h1,h2⟩⟩
def bq(L:List bB):List Nat:=L.flatMap (·.blocks)
@[simp] theorem Ja:bq []=[]:=rfl
@[simp] theorem c9(e:bB)(L:List bB):bq (e::L)=e.blocks++bq L:=rfl
@[simp] theorem bS(L R:List bB):bq (L++R)=bq L++bq R:=by simp[bq]
theorem bX{L:List bB}{b:Nat}:b∈bq L↔∃e∈L,b∈e.blocks:=by simp[bq]
structure Ow(m:Mem)(L:List bB):Prop where
 nodup:(bq L).Nodup
 ok:∀e∈L,e.ok m.w
 apart:∀e∈L,∀b∈e.blocks,∀o,e.BV b o->¬ m.ok b o
structure St(B:List Nat)(m0 m:Mem)(L:List bB):Prop where
 le:Le m0 m
 kept:∀b,b<m0.w.heap.size->b ∉ B->m.w.heap[b]?=m0.w.heap[b]?
 news:∀b o,m.ok b o->m0.ok b o\/m0.w.heap.size<=b\/b∈B
 ow:Ow m L
 lb:∀b∈bq L,b∈B\/m0.w.heap.size<=b
section
variable {B:List Nat}{m0 m m':Mem}{L R L':List bB}{e e':bB}
theorem St.refl(h:Ow m L):St (bq L) m m L:=
 ⟨Le.refl m,fun _ _ _=>rfl,fun _ _ h=>.inl h,h,fun _ h=>.inl h⟩
theorem Ow.lt(h:Ow m L){b:Nat}(hb:b∈bq L):b<m.w.heap.size:=by
 obtain⟨e,he,hbe⟩:=bX.1 hb;exact e.lt _ (h.ok e he) b hbe
theorem Ow.right(h:Ow m (L++R)):Ow m R:=
 ⟨by have:=h.nodup;rw[bS]at this;exact(List.nodup_append.1 this).2.1,fun e he=>h.ok e (by simp[he]),fun e he=>h.apart e (by simp[he])⟩
theorem Ow.left(h:Ow m (L++R)):Ow m L:=
 ⟨by have:=h.nodup;rw[bS]at this;exact(List.nodup_append.1 this).1,fun e he=>h.ok e (by simp[he]),fun e he=>h.apart e (by simp[he])⟩
theorem Ow.nil(m:Mem):Ow m []:=⟨List.nodup_nil,fun e h=>(by cases h),fun e h=>(by cases h)⟩
theorem St.frame(h:St B m0 m (L++R))(k:St (bq L) m m' L'):St B m0 m' (L'++R):=by
 have hn:=h.ow.nodup;rw[bS]at hn;obtain⟨_,nR,nLR⟩:=List.nodup_append.1 hn;have hR:=h.ow.right;have out:∀b∈bq R,b ∉ bq L:=fun b hb hl=>nLR b hl b hb rfl
 have hlt:∀b∈bq R,b<m.w.heap.size:=fun b hb=>hR.lt hb
 refine⟨h.le.trans k.le,fun b hb hB=>?_,fun b o ho=>?_,⟨?_,fun e he=>?_,fun e he b hb o ho hm=>?_⟩,fun b hb=>?_⟩
 . rw[k.kept b (Nat.lt_of_lt_of_le hb h.le.size) (fun hl=>?_),h.kept b hb hB];rcases h.lb b (by rw[bS];exact aN _ hl)with h1|h1
   . exact hB h1
   . omega
 . rcases k.news b o ho with h1|h1|h1
   . exact h.news b o h1
   . exact .inr (.inl (Nat.le_trans h.le.size h1))
   . rcases h.lb b (by rw[bS];exact aN _ h1)with h2|h2
     . exact .inr (.inr h2)
     . exact .inr (.inl h2)
 . rw[bS];refine List.nodup_append.2 ⟨k.ow.nodup,nR,fun a ha b hb=>?_⟩;rintro rfl;rcases k.lb a ha with h1|h1
   . exact out a hb h1
   . have:=hlt a hb;omega
 . rcases bj.1 he with h1|h1
   . exact k.ow.ok e h1
   . exact e.loc _ _ (hR.ok e h1) fun b hb=>k.kept b (hlt b (bX.2 ⟨e,h1,hb⟩)) (out b (bX.2 ⟨e,h1,hb⟩))
 . rcases bj.1 he with h1|h1
   . exact k.ow.apart e h1 b hb o ho hm
   . have hbr:=bX.2 ⟨e,h1,hb⟩;rcases k.news b o hm with h2|h2|h2
     . exact hR.apart e h1 b hb o ho h2
     . have:=hlt b hbr;omega
     . exact out b hbr h2
 . rw[bS]at hb;rcases bj.1 hb with h1|h1
   . rcases k.lb b h1 with h2|h2
     . exact h.lb b (by rw[bS];exact aN _ h2)
     . exact .inr (Nat.le_trans h.le.size h2)
   . exact h.lb b (by rw[bS];exact aW _ h1)
theorem St.call(h:St B m0 m R)(k:St [] m m' L'):St B m0 m' (L'++R):=St.frame (L:=[]) h k
theorem Ow.perm(h:Ow m L)(p:List.Perm L R):Ow m R:=
 ⟨((List.Perm.flatMap_right bB.blocks p).nodup_iff).1 h.nodup,fun e he=>h.ok e (p.mem_iff.2 he),fun e he=>h.apart e (p.mem_iff.2 he)⟩
theorem St.perm(h:St B m0 m L)(p:List.Perm L R):St B m0 m R:=
 ⟨h.le,h.kept,h.news,h.ow.perm p,fun b hb=>h.lb b (by
  obtain⟨e,he,hbe⟩:=bX.1 hb;exact bX.2 ⟨e,p.mem_iff.2 he,hbe⟩)⟩
theorem vp:∀(L:List bB) (i:Nat) (e:bB),L[i]?=some e->List.Perm L (e::L.eraseIdx i)
 |[],_,_,h=>by simp at h
 |x::L,0,e,h=>by simp at h;subst h;exact List.Perm.refl _
 |x::L,i+1,e,h=>by
  simp at h;exact((vp L i e h).cons x).trans (List.Perm.swap e x _)
theorem St.front(h:St B m0 m L)(i:Nat)(hi:L[i]?=some e):St B m0 m (e::L.eraseIdx i):=h.perm (vp L i e hi)
theorem St.drop(h:St B m0 m (e::L)):St B m0 m L:=
 ⟨h.le,h.kept,h.news,Ow.right (L:=[e]) h.ow,fun b hb=>h.lb b (by rw[c9];exact aW _ hb)⟩
theorem St.kG(h:St B m0 m (L++R)):St B m0 m L:=
 ⟨h.le,h.kept,h.news,Ow.left h.ow,fun b hb=>h.lb b (by rw[bS];exact aN _ hb)⟩
def Mem.mU(m:Mem)(X:Nat->Nat->Prop):Mem:=⟨m.w,fun b o=>m.ok b o\/X b o⟩
theorem Le.mU(m:Mem)(X:Nat->Nat->Prop):Le m (m.mU X):=⟨rfl,rfl,rfl,Nat.le_refl _,fun _ _ h=>⟨⟨.inl h,h.2⟩,rfl⟩⟩
theorem St.mU(h:St B m0 m (e::R))(X:Nat->Nat->Prop)(hX:∀b o,X b o->b∈e.blocks)(hok:e'.ok m.w)(hb:∀b∈e'.blocks,b∈e.blocks)(hn:e'.blocks.Nodup)
 (hf:∀b∈e'.blocks,∀o,e'.BV b o->e.BV b o/\¬ X b o):St B m0 (m.mU X) (e'::R):=by
 have k:St (bq [e]) m (m.mU X) [e']:=by
  refine⟨Le.mU m X,fun _ _ _=>rfl,fun b o ho=>?_,⟨by simpa using hn,fun x hx=>?_,fun x hx b hbb o ho hm=>?_⟩,fun b hbb=>?_⟩
  . rcases ho.1 with h1|h1
    . exact .inl h1
    . exact .inr (.inr (by simpa using hX b o h1))
  . simp at hx;subst hx;exact hok
  . simp at hx;subst hx;obtain⟨h1,h2⟩:=hf b hbb o ho;rcases hm.1 with h3|h3
    . exact h.ow.apart e (by simp) b (hb b hbb) o h1 h3
    . exact h2 h3
  . simp at hbb;exact .inl (by simpa using hb b hbb)
 exact St.frame (L:=[e]) h k
@[reducible] def Mem.up(m:Mem)(w':World):Mem:=⟨w',fun b o=>m.ok b o\/m.w.heap.size<=b⟩
theorem nZ{w w':World}(h:Below w.heap.size w w'){b o:Nat}(hb:b<w.heap.size):w'.cell? ⟨b,o,none⟩=w.cell? ⟨b,o,none⟩:=by
 unfold World.cell?;rw[Below.block h b hb]
theorem Le.up(m:Mem){w':World}(h:Below m.w.heap.size m.w w'):Le m (m.up w'):=
 ⟨Below.os h,Below.tape h,Below.output h,Below.size h,fun b o hb=>⟨⟨.inl hb,Nat.lt_of_lt_of_le hb.2 (Below.size h)⟩,nZ h hb.2⟩⟩
theorem St.up(m:Mem){w':World}(h:Below m.w.heap.size m.w w'):St [] m (m.up w') []:=
 ⟨Le.up m h,fun b hb _=>Below.block h b hb,fun b o ho=>ho.1.imp id .inl,Ow.nil _,fun b hb=>by simp at hb⟩
theorem St.below(h:St [] m m' L):Below m.w.heap.size m.w m'.w:=
 ⟨h.le.os,h.le.tape,h.le.output,h.le.size,fun b hb=>h.kept b hb (by simp)⟩
theorem St.new{o:Obj}(h:St B m0 m L){w':World}(hw:w'=m.w.alloc o)(e:bB)(hb:e.blocks=[m.w.heap.size])(hok:e.ok w'):St B m0 ⟨w',m.ok⟩ (e::L):=by
 subst hw;have k:St [] m ⟨m.w.alloc o,m.ok⟩ [e]:=by
  have hg:Below m.w.heap.size m.w (m.w.alloc o):=(Below.refl _ _).alloc (Nat.le_refl _) o;refine⟨⟨rfl,rfl,rfl,Below.size hg,fun b x hx=>⟨⟨hx,Nat.lt_of_lt_of_le hx.2 (Below.size hg)⟩,nZ hg hx.2⟩⟩,fun b hb _=>Below.block hg b hb,fun b x hx=>.inl hx.1,⟨by simp[hb],fun x hx=>?_,fun x hx c hc q _ hm=>?_⟩,fun c hc=>?_⟩
  . simp at hx;subst hx;exact hok
  . simp at hx;subst hx;rw[hb]at hc;simp at hc;subst hc;exact absurd hm.1.2 (by simp)
  . simp[hb]at hc;subst hc;exact .inr (Nat.le_refl _)
 exact h.call k
theorem cR(w:World)(o:Obj):(w.alloc o).heap[w.heap.size]?=some o:=heap_alloc_new w o
theorem St.rR(h:St B m0 m L)(cs:Array Value)(T:TypeId):St B m0 ⟨m.w.alloc (.cells cs T (0,0)),m.ok⟩ (.box m.w.heap.size cs T::L):=
 h.new rfl (.box m.w.heap.size cs T) rfl (cR _ _)
theorem St.drew(h:St B m0 m L):St B m0 (m.up m.w.drew) L:=h.call (St.up m (Below.refl _ _).drew)
theorem St.write{b:Nat}{cs cs':Array Value}{T:TypeId}(h:St B m0 m (.box b cs T::R)){w':World}(hw:m.w.grownBy w' (some b))(hsz:w'.heap.size=m.w.heap.size)(hb:w'.heap[b]?=some (.cells cs' T (0,0))):
 St B m0 ⟨w',m.ok⟩ (.box b cs' T::R):=by
 have hap:=h.ow.apart (.box b cs T) (by simp) b (by simp[bB.box])
 have k:St (bq [bB.box b cs T]) m ⟨w',m.ok⟩ [bB.box b cs' T]:=by
  have hk:∀c,c<m.w.heap.size->c≠b->w'.heap[c]?=m.w.heap[c]?:=fun c hc hne=>hw.block c hc (fun e=>hne (by cases e;rfl))
  refine⟨⟨hw.os,hw.tape,hw.output,hw.size,fun c o hc=>⟨⟨hc,by simpa[hsz]using hc.2⟩,?_⟩⟩,fun c hc hn=>hk c hc (by simpa[bB.box]using hn),fun c o hc=>.inl hc.1,⟨by simp[bB.box],fun x hx=>?_,fun x hx c hc o _ hm=>?_⟩,fun c hc=>?_⟩
  . have hne:c≠b:=fun e=>by subst e;exact hap o trivial hc
    show w'.cell? _=m.w.cell? _;unfold World.cell?;rw[hk c hc.2 hne]
  . simp at hx;subst hx;exact hb
  . simp at hx;subst hx;simp[bB.box]at hc;subst hc;exact hap o trivial hm.1
  . simp[bB.box]at hc;subst hc;exact .inl (by simp[bB.box])
 exact St.frame (L:=[bB.box b cs T]) h k
theorem St.ud{b:Nat}{cs:Array Value}{T:TypeId}(h:St B m0 m L)(i:Nat)(hi:L[i]?=some (.box b cs T)):m.w.heap[b]?=some (.cells cs T (0,0)):=
 h.ow.ok _ (List.mem_of_getElem? hi)
theorem St.LA{b:Nat}{o:Obj}(h:St B m0 m L)(i:Nat)(hi:L[i]?=some (.obj b o)):m.w.heap[b]?=some o:=
 h.ow.ok _ (List.mem_of_getElem? hi)
theorem St.gu{b:Nat}{o o':Obj}(h:St B m0 m (.obj b o::R)){w':World}(hw:m.w.grownBy w' (some b))(hsz:w'.heap.size=m.w.heap.size)(hb:w'.heap[b]?=some o'):
 St B m0 ⟨w',m.ok⟩ (.obj b o'::R):=by
 have hap:=h.ow.apart (.obj b o) (by simp) b (by simp[bB.obj])
 have k:St (bq [bB.obj b o]) m ⟨w',m.ok⟩ [bB.obj b o']:=by
  have hk:∀c,c<m.w.heap.size->c≠b->w'.heap[c]?=m.w.heap[c]?:=fun c hc hne=>hw.block c hc (fun e=>hne (by cases e;rfl))
  refine⟨⟨hw.os,hw.tape,hw.output,hw.size,fun c o hc=>⟨⟨hc,by simpa[hsz]using hc.2⟩,?_⟩⟩,fun c hc hn=>hk c hc (by simpa[bB.obj]using hn),fun c o hc=>.inl hc.1,⟨by simp[bB.obj],fun x hx=>?_,fun x hx c hc o _ hm=>?_⟩,fun c hc=>?_⟩
  . have hne:c≠b:=fun e=>by subst e;exact hap o trivial hc
    show w'.cell? _=m.w.cell? _;unfold World.cell?;rw[hk c hc.2 hne]
  . simp at hx;subst hx;exact hb
  . simp at hx;subst hx;simp[bB.obj]at hc;subst hc;exact hap o trivial hm.1
  . simp[bB.obj]at hc;subst hc;exact .inl (by simp[bB.obj])
 exact St.frame (L:=[bB.obj b o]) h k
end
def Spec(P:Program)(f:FuncId)(args:Array Value)(m:Mem)(L:List bB)(Q:Value->Mem->List bB->Prop):Prop:=
 Calls P f args m.w fun e w'=>∃v m' L',e=.returned v/\m'.w=w'/\St (bq L) m m' L'/\Q v m' L'
end
section
open Go.RowKit
def At(m:Mem)(b o:Nat)(cs:List Value):Prop:=∀k v,cs[k]?=some v->m.ok b (o+k)/\m.w.cell? ⟨b,o+k,none⟩=some v
theorem At.mono{m m':Mem}{b o:Nat}{cs:List Value}(h:At m b o cs)(l:Le m m'):At m' b o cs:=
 fun k v hv=>let⟨h1,h2⟩:=h k v hv;⟨(l.same _ _ h1).1,((l.same _ _ h1).2).trans h2⟩
def Sl(m:Mem)(sz:Nat)(a:Option Addr)(n cap:Nat)(xs:List Value):Prop:=
 xs.length=n*sz/\n<=cap/\cap<=maxLen/\(a=none->cap=0)/\∀j v,xs[j]?=some v->∃b o,a=some ⟨b,o,none⟩/\m.ok b (o+j)/\m.w.cell? ⟨b,o+j,none⟩=some v
section
variable {m m':Mem}{sz:Nat}{a:Option Addr}{n cap:Nat}{xs ys:List Value}
theorem Sl.mono(h:Sl m sz a n cap xs)(l:Le m m'):Sl m' sz a n cap xs:=
 ⟨h.1,h.2.1,h.2.2.1,h.2.2.2.1,fun j v hv=>let⟨b,o,ha,h1,h2⟩:=h.2.2.2.2 j v hv;⟨b,o,ha,(l.same _ _ h1).1,((l.same _ _ h1).2).trans h2⟩⟩
theorem Sl.nil(m:Mem)(sz:Nat):Sl m sz none 0 0 []:=⟨by simp,Nat.le_refl _,by simp[maxLen],fun _=>rfl,fun j v h=>by simp at h⟩
theorem Sl.mD(h:Sl m sz a n cap xs):n<=9223372036854775807/\cap<=9223372036854775807/\n<=cap:=by
 have h1:=h.2.1;have h2:=h.2.2.1;unfold maxLen at h2;omega
theorem Sl.at(h:Sl m sz a n cap xs)(hp:0<xs.length):∃b o,a=some ⟨b,o,none⟩/\At m b o xs:=by
 obtain⟨b,o,ha,_⟩:=h.2.2.2.2 0 xs[0] (by simp[hp]);refine⟨b,o,ha,fun i v hv=>?_⟩;obtain⟨b',o',ha',hc⟩:=h.2.2.2.2 i v hv;rw[ha]at ha';cases ha';exact hc
def cm(a:Option Addr)(m l s:Nat):Option Addr:=if m=l then a else a.map (·.add (l*s))
theorem dX(a:Option Addr)(m s:Nat):cm a m 0 s=a:=by
 unfold cm;split
 . rfl
 . cases a<;>simp[Addr.add]
theorem Sl.Jn(h:Sl m sz a n cap xs)(l r q:Nat)(hl:l<=r)(hr:r<=n)(hrm:r<=q)(hm:q<=cap):
 Sl m sz (cm a q l sz) (r-l) (q-l) ((xs.take (r*sz)).drop (l*sz)):=by
 unfold cm
 obtain⟨h1,h2,h3,h0,h4⟩:=h
 have hle:r*sz<=n*sz:=Nat.mul_le_mul_right _ hr
 refine⟨by rw[aZ,aG,h1,Nat.min_eq_left hle,Nat.sub_mul],by omega,by omega,fun e=>?_,fun j v hv=>?_⟩
 . have:a=none:=by
    split at e
    . exact e
    . simpa using e
   have:=h0 this;omega
 have hv':xs[l*sz+j]?=some v/\l*sz+j<r*sz:=by
  simp only[List.getElem?_drop,List.getElem?_take]at hv;split at hv
  . exact⟨hv,by assumption⟩
  . cases hv
 have hlr:l<r:=by
  by_cases e:l=r
  . subst e;omega
  . omega
 obtain⟨b,o,ha,hk,hc⟩:=h4 _ _ hv'.1
 refine⟨b,o+l*sz,?_,?_,?_⟩
 . rw[if_neg (by omega),ha];simp[Addr.add_mid]
 . rw[Nat.add_assoc];exact hk
 . rw[Nat.add_assoc];exact hc
end
def cz{α:Type}(R:Mem->α->List Value->Prop)(m:Mem)(sz:Nat)(a:Option Addr)(cap:Nat)(l:List α):Prop:=
 ∃css:List (List Value),Sl m sz a l.length cap css.flatten/\css.length=l.length/\
  ∀(i:Nat) (x:α) (cs:List Value),l[i]?=some x->css[i]?=some cs->cs.length=sz/\R m x cs
structure jB{α:Type}(R:Mem->α->List Value->Prop)(sz:Nat):Prop where
 mono:∀{m m':Mem} {x:α} {cs:List Value},R m x cs->Le m m'->R m' x cs
 size:∀{m:Mem} {x:α} {cs:List Value},R m x cs->cs.length=sz
 one:∀{m:Mem} {x:α} {cs:List Value},R m x cs->∀u∈cs,u.oneCell'=true
 pos:0<sz
section
variable {α:Type}{R:Mem->α->List Value->Prop}{m m':Mem}{sz:Nat}{a:Option Addr}{cap:Nat}{l l':List α}
theorem cz.mono(hR:jB R sz)(h:cz R m sz a cap l)(g:Le m m'):cz R m' sz a cap l:=
 let⟨css,h1,h2,h4⟩:=h;⟨css,h1.mono g,h2,fun i x cs hx hc=>⟨(h4 i x cs hx hc).1,hR.mono (h4 i x cs hx hc).2 g⟩⟩
theorem cz.mD(h:cz R m sz a cap l):l.length<=9223372036854775807/\cap<=9223372036854775807/\l.length<=cap:=let⟨_,h1,_⟩:=h;h1.mD
theorem cz.nil(m:Mem)(sz:Nat):cz R m sz none 0 ([]:List α):=⟨[],Sl.nil m sz,rfl,fun i x cs h=>by simp at h⟩
theorem fc{β:Type}(sz:Nat):∀(css:List (List β)),(∀(i:Nat) (cs:List β),css[i]?=some cs->cs.length=sz)->∀(i j:Nat) (cs:List β) (v:β),css[i]?=some cs->cs[j]?=some v->css.flatten[i*sz+j]?=some v
 |[],_,i,j,cs,v,h,_=>by simp at h
 |c::css,hl,0,j,cs,v,h,hv=>by
  simp at h;subst h;have hj:j<c.length:=(List.getElem?_eq_some_iff.1 hv).1;simp only[List.flatten_cons,Nat.zero_mul,aI];rw[List.getElem?_append_left hj];exact hv
 |c::css,hl,i+1,j,cs,v,h,hv=>by
  have hc:c.length=sz:=hl 0 c rfl;simp at h;simp only[List.flatten_cons];rw[List.getElem?_append_right (by rw[hc,aM];omega)];have e:(i+1)*sz+j-c.length=i*sz+j:=by rw[hc,aM];omega
  rw[e];exact fc sz css (fun k cs hk=>hl (k+1) cs (by simpa using hk)) i j cs v h hv
theorem cz.lens{css:List (List Value)}(h2:css.length=l.length)(h4:∀(i:Nat) (x:α) (cs:List Value),l[i]?=some x->css[i]?=some cs->cs.length=sz/\R m x cs):
 ∀(i:Nat) (cs:List Value),css[i]?=some cs->cs.length=sz:=fun i cs hc=>by
 have hi:i<css.length:=(List.getElem?_eq_some_iff.1 hc).1
 exact(h4 i (l[i]'(by omega)) cs (by simp) hc).1
theorem cz.get(h:cz R m sz a cap l)(hs:0<sz){i:Nat}(hi:i<l.length):∃b o cs,a=some ⟨b,o,none⟩/\cs.length=sz/\R m l[i] cs/\At m b (o+i*sz) cs:=by
 obtain⟨css,h1,h2,h4⟩:=h;have hcl:=cz.lens h2 h4;have hpos:0<css.flatten.length:=by rw[h1.1];exact Nat.mul_pos (by omega) hs
 obtain⟨b,o,ha,hc⟩:=h1.at hpos;have hjc:i<css.length:=by omega
 obtain⟨k1,k2⟩:=h4 i l[i] css[i] (by simp) (by simp);refine⟨b,o,css[i],ha,k1,k2,fun k v hv=>?_⟩;have:=hc _ _ (fc sz css hcl i k css[i] v (by simp) hv);rw[Nat.add_assoc];exact this
theorem ir{β:Type}(sz:Nat):∀(css:List (List β)) (k:Nat),(∀(i:Nat) (cs:List β),css[i]?=some cs->cs.length=sz)->css.flatten.drop (k*sz)=(css.drop k).flatten
 |css,0,_=>by simp
 |[],k+1,_=>by simp
 |c::css,k+1,hl=>by
  have hc:c.length=sz:=hl 0 c rfl;simp only[List.flatten_cons,List.drop_succ_cons];rw[show(k+1)*sz=c.length+k*sz by rw[hc,aM];omega,List.drop_append,List.drop_of_length_le (by omega),show c.length+k*sz-c.length=k*sz by omega,aJ];exact ir sz css k (fun i cs hk=>hl (i+1) cs (by simpa using hk))
theorem iu{β:Type}(sz:Nat):∀(css:List (List β)) (k:Nat),(∀(i:Nat) (cs:List β),css[i]?=some cs->cs.length=sz)->css.flatten.take (k*sz)=(css.take k).flatten
 |css,0,_=>by simp
 |[],k+1,_=>by simp
 |c::css,k+1,hl=>by
  have hc:c.length=sz:=hl 0 c rfl;simp only[List.flatten_cons,List.take_succ_cons];rw[show(k+1)*sz=c.length+k*sz by rw[hc,aM];omega,List.take_append,bn (by omega),show c.length+k*sz-c.length=k*sz by omega];rw[iu sz css k (fun i cs hk=>hl (i+1) cs (by simpa using hk))]
theorem cz.Jn(h:cz R m sz a cap l)(i r q:Nat)(hl:i<=r)(hr:r<=l.length)(hrm:r<=q)(hm:q<=cap):
 cz R m sz (cm a q i sz) (q-i) ((l.take r).drop i):=by
 obtain⟨css,h1,h2,h4⟩:=h
 have hcl:=cz.lens h2 h4
 refine⟨(css.take r).drop i,?_,by simp[h2],fun j x cs hx hc=>?_⟩
 . have:=h1.Jn i r q hl hr hrm hm
   rw[iu sz css r hcl,ir sz (css.take r) i (fun k cs hk=>hcl k cs (by
    rw[List.getElem?_take]at hk;split at hk
    . exact hk
    . cases hk))]at this
   rw[show((l.take r).drop i).length=r-i by simp;omega]
   exact this
 . simp only[List.getElem?_drop,List.getElem?_take]at hx hc
   split at hx
   . rename_i hlt
     rw[if_pos hlt]at hc
     exact h4 _ _ _ hx hc
   . cases hx
theorem cz.cut(h:cz R m sz a cap l)(i r:Nat)(hl:i<=r)(hr:r<=l.length):cz R m sz (cm a cap i sz) (cap-i) ((l.take r).drop i):=
 h.Jn i r cap hl hr (Nat.le_trans hr h.mD.2.2) (Nat.le_refl _)
theorem cz.upto(h:cz R m sz a cap l)(r:Nat)(hr:r<=l.length):cz R m sz a cap (l.take r):=by
 have:=h.cut 0 r (by omega) hr;simpa[dX]using this
theorem cz.from(h:cz R m sz a cap l)(i:Nat)(hl:i<=l.length):cz R m sz (cm a cap i sz) (cap-i) (l.drop i):=by
 have:=h.cut i l.length hl (Nat.le_refl _);rwa[bn (Nat.le_refl _)]at this
theorem cz.OZ(hR:jB R sz){b o:Nat}{css:List (List Value)}(hlen:css.length=l.length)(hc:∀(i:Nat) (x:α) (cs:List Value),l[i]?=some x->css[i]?=some cs->R m x cs)
 (hat:At m b o css.flatten) (hcap:l.length<=cap) (hm:cap<=maxLen):cz R m sz (some ⟨b,o,none⟩) cap l:=by
 have hl:∀(i:Nat) (cs:List Value),css[i]?=some cs->cs.length=sz:=fun i cs hci=>by
  have hi:i<css.length:=(List.getElem?_eq_some_iff.1 hci).1;exact hR.size (hc i (l[i]'(by omega)) cs (by simp) hci)
 have hfl:∀(css:List (List Value)),(∀(i:Nat) (cs:List Value),css[i]?=some cs->cs.length=sz)->css.flatten.length=css.length*sz:=by
  intro css
  induction css with
  |nil=>intro _;simp
  |cons c css ih=>
   intro h
   simp only[List.flatten_cons,ay,bm]
   rw[h 0 c rfl,ih (fun i cs hi=>h (i+1) cs (by simpa using hi)),aM];omega
 refine⟨css,⟨by rw[hfl css hl,hlen],hcap,hm,(fun e=>by cases e),fun j v hv=>⟨b,o,rfl,(hat j v hv).1,(hat j v hv).2⟩⟩,hlen,fun i x cs hx hci=>⟨hl i cs hci,hc i x cs hx hci⟩⟩
end
structure cj(P:Program)(t e:TypeId)(z:Value)(sz bytes:Nat):Prop where
 dU:P.underlying t=some (.slice e)
 info:(P.info? e).map (fun i=>(i.zero,i.size,i.bytes))=some (some z,sz,bytes)
 zs:z.cells.size=sz
 pos:0<sz
theorem info_parts{P:Program}{e:TypeId}{z:Value}{sz bytes:Nat}(h:(P.info? e).map (fun i=>(i.zero,i.size,i.bytes))=some (some z,sz,bytes)):
 ∃i,P.info? e=some i/\i.zero=some z/\i.size=sz/\i.bytes=bytes:=by
 cases hi:P.info? e with
 |none=>simp[hi]at h
 |some i=>simp[hi]at h;exact⟨i,rfl,h⟩
abbrev dA(g:Option Nat):Option Addr:=g.map fun b=>⟨b,0,none⟩
def Mem.now(m:Mem):Mem:=⟨m.w,fun _ _=>True⟩
theorem Sl.all{m:Mem}{sz n cap:Nat}{a:Option Addr}{xs:List Value}(h:Sl m sz a n cap xs):Sl m.now sz a n cap xs:=
 ⟨h.1,h.2.1,h.2.2.1,h.2.2.2.1,fun j v hv=>by obtain⟨b,o,h1,h2,h3⟩:=h.2.2.2.2 j v hv;exact⟨b,o,h1,⟨trivial,h2.2⟩,h3⟩⟩
def FQ{α:Type}(R:Mem->α->List Value->Prop)(m:Mem)(sz:Nat)(a:Option Addr)(cap:Nat)(l:List α):Prop:=
 ∃css:List (List Value),Sl m.now sz a l.length cap css.flatten/\css.length=l.length/\
  ∀(i:Nat) (x:α) (cs:List Value),l[i]?=some x->css[i]?=some cs->cs.length=sz/\R m x cs
theorem cz.src{α:Type}{R:Mem->α->List Value->Prop}{m:Mem}{sz cap:Nat}{a:Option Addr}{l:List α}(h:cz R m sz a cap l):FQ R m sz a cap l:=
 let⟨css,h1,h2⟩:=h;⟨css,h1.all,h2⟩
section
variable {P:Program}{m:Mem}{t ty e:TypeId}{z:Value}{sz bytes:Nat}
theorem oX(hT:cj P t e z sz bytes)(g:Option Nat)(n cap:Nat)(cur:Array Value)(hg:∀b,g=some b->m.w.heap[b]?=some (.cells cur e (0,0)))(hcs:g≠none->cur.size=cap*sz)(hnil:g=none->cap=0)
 (a2:Option Addr) (k cap2:Nat) (ys:List Value) (hy:Sl m.now sz a2 k cap2 ys) (h1:∀u∈ys,u.oneCell'=true) (hroom:n+k<=cap):
 (Builtin.append_ #[t,t] ty #[.slice (dA g) n cap,.slice a2 k cap2]).run P m.w=
  .ok (.slice (dA g) (n+k) cap) (match g with|none=>m.w|some b=>match a2 with|none=>m.w|some _=>m.w.setRow b (cur.toList.take (n*sz)++ys++cur.toList.drop (n*sz+ys.length)).toArray):=by
 obtain⟨i,hi,hz,hs,hb⟩:=info_parts hT.info
 cases g with
 |none=>
  have hc:=hnil rfl
  have hk:k=0:=by omega
  have hn:n=0:=by omega
  subst hc hk hn
  cases a2 with
  |none=>simp[Builtin.append_,run_underlying hT.dU,sizeOf,typeInfo,hi,Builtin.lenOf,Builtin.firstCells,dA]
  |some ad=>simp[Builtin.append_,run_underlying hT.dU,sizeOf,typeInfo,hi,Builtin.lenOf,Builtin.firstCells,dA,loadCells,loadCellsFrom]
 |some b=>
  cases a2 with
  |none=>
   have hc:=hy.2.2.2.1 rfl
   have hk:k=0:=by have:=hy.2.1;omega
   subst hk
   simp[Builtin.append_,run_underlying hT.dU,sizeOf,typeInfo,hi,Builtin.lenOf,Builtin.firstCells,dA,storeCells]
   omega
  |some ad=>
   have:=run_append_room (P:=P) m.w t ty e i hT.dU hi b n cap cur (hg b rfl) ad k cap2 ys (by rw[hs];exact hy.1) (fun j u hu=>by
    obtain⟨b',o,ha,_,hc⟩:=hy.2.2.2.2 j u hu;cases ha;rw[Addr.add_mid];exact hc) h1 hroom (by rw[hs,hcs (by simp),hy.1,<- aM];exact Nat.mul_le_mul_right _ hroom)
   rw[hs]at this
   exact this
theorem nw(hT:cj P t e z sz bytes)(a:Option Addr)(n cap:Nat)(xs:List Value)(hx:Sl m sz a n cap xs)
 (a2:Option Addr) (k cap2:Nat) (ys:List Value) (hy:Sl m.now sz a2 k cap2 ys) (h1:∀u∈ys,u.oneCell'=true) (hlen:(n+k)*bytes<=140737488355328) (h63:n+k<=maxLen) (hg:cap<n+k):
 ∃cap' cur,(Builtin.append_ #[t,t] ty #[.slice a n cap,.slice a2 k cap2]).run P m.w=.ok (.slice (some ⟨m.w.heap.size,0,none⟩) (n+k) cap') (m.w.drew.alloc (.cells cur e (0,0)))/\
  cur.size=cap'*sz/\n+k<=cap'/\cap'<=maxLen/\cur.toList.take ((n+k)*sz)=xs++ys:=by
 obtain⟨i,hi,hz,hs,hb⟩:=info_parts hT.info
 have h63':n+k<=9223372036854775807:=by unfold maxLen at h63;omega
 have hsrc:Src P i.size t (.slice a2 k cap2) k ys m.w:=by
  rw[hs]
  cases a2 with
  |none=>
   have hc:=hy.2.2.2.1 rfl
   have hm:k=0:=by have:=hy.2.1;omega
   subst hc hm
   have hye:ys=[]:=bh (by simpa using hy.1)
   subst hye
   exact Src.ofNil m.w hT.dU 0
  |some ad=>
   exact Src.ofSlice m.w hT.dU ad k cap2 ys hy.1 (fun j u hu=>by
    obtain⟨b,o,ha,_,hc⟩:=hy.2.2.2.2 j u hu;cases ha;rw[Addr.add_mid];exact hc) h1
 have hold:(Builtin.firstCells i.size n (.slice a n cap)).run P m.w.drew=.ok xs.toArray m.w.drew:=by
  rw[hs]
  cases a with
  |none=>
   have hc:=hx.2.2.2.1 rfl
   have hm:n=0:=by have:=hx.2.1;omega
   subst hc hm
   have hye:xs=[]:=bh (by simpa using hx.1)
   subst hye
   exact run_firstCells_none m.w.drew sz 0 0 0
  |some ad=>
   exact run_firstCells_some m.w.drew sz n ad n cap xs hx.1 (fun j u hu=>by
    obtain⟨b,o,ha,_,hc⟩:=hx.2.2.2.2 j u hu;cases ha;rw[Addr.add_mid];exact hc)
 have hr:=run_append_grow_src (P:=P) m.w t t ty e i z hT.dU hi hz a n cap xs hold _ k ys hsrc hg (by omega) (growslice_fits hg (by rw[hb];exact hlen))
 have hge:=grownCap_ge m.w (n+k) cap e
 have hcm:=grownCap_le_maxLen m.w (n+k) cap e h63
 refine⟨_,_,hr,?_,hge,hcm,?_⟩
 . simp only[Array.size_append,List.size_toArray,ay,size_zeroCells,hT.zs,hx.1,hy.1,<- aM]
   congr 1
   omega
 . simp only[Array.toList_append]
   rw[show(n+k)*sz=(xs++ys).length by rw[ay,hx.1,hy.1,aM]]
   exact List.take_left
end
abbrev rowOf{α:Type}(T:TypeId)(sz:Nat)(g:Option Nat)(cap:Nat)(l:List α):bB:=.row g T (cap*sz) (l.length*sz)
section
variable {B:List Nat}{m0 m:Mem}{L:List bB}{α:Type}{R:Mem->α->List Value->Prop}{P:Program}{t ty e:TypeId}{z:Value}{sz bytes:Nat}
theorem iK{css:List (List Value)}{l:List α}(hR:jB R sz)(h2:css.length=l.length)(h4:∀(i:Nat) (x:α) (cs:List Value),l[i]?=some x->css[i]?=some cs->cs.length=sz/\R m x cs):∀u∈css.flatten,u.oneCell'=true:=by
 intro u hu;obtain⟨cs,hcs,hu⟩:=List.mem_flatten.1 hu;obtain⟨i,hi⟩:=List.mem_iff_getElem?.1 hcs;have hil:i<css.length:=(List.getElem?_eq_some_iff.1 hi).1;exact hR.one (h4 i (l[i]'(by omega)) cs (by simp) hi).2 u hu
theorem pj{css dss:List (List Value)}{l l':List α}(h2:css.length=l.length)(h4:∀(i:Nat) (x:α) (cs:List Value),l[i]?=some x->css[i]?=some cs->cs.length=sz/\R m x cs)
 (k2:dss.length=l'.length) (k4:∀(i:Nat) (x:α) (cs:List Value),l'[i]?=some x->dss[i]?=some cs->cs.length=sz/\R m x cs):
 (css++dss).length=(l++l').length/\∀(i:Nat) (x:α) (cs:List Value),(l++l')[i]?=some x->(css++dss)[i]?=some cs->cs.length=sz/\R m x cs:=by
 refine⟨by simp[h2,k2],fun i x cs hx hc=>?_⟩
 by_cases hi:i<l.length
 . rw[List.getElem?_append_left hi]at hx
   rw[List.getElem?_append_left (by omega)]at hc
   exact h4 i x cs hx hc
 . rw[List.getElem?_append_right (by omega)]at hx
   rw[List.getElem?_append_right (by omega),h2]at hc
   exact k4 _ x cs hx hc
theorem D5(hR:jB R sz){b cap:Nat}{l l':List α}(hS:St B m0 m (rowOf e sz (some b) cap l::L))(hx:cz R m sz (dA (some b)) cap l){dss:List (List Value)}(k2:dss.length=l'.length)
 (k4:∀(i:Nat) (x:α) (cs:List Value),l'[i]?=some x->dss[i]?=some cs->cs.length=sz/\R m x cs) (hyl:dss.flatten.length=l'.length*sz) (hroom:l.length+l'.length<=cap) {cur:Array Value} (hcur:m.w.heap[b]?=some (.cells cur e (0,0))) (hcs:cur.size=cap*sz):
 ∃m':Mem,m'.w=m.w.setRow b (cur.toList.take (l.length*sz)++dss.flatten++cur.toList.drop (l.length*sz+dss.flatten.length)).toArray/\Le m m'/\St B m0 m' (rowOf e sz (some b) cap (l++l')::L)/\cz R m' sz (dA (some b)) cap (l++l'):=by
 obtain⟨css,h1,h2,h4⟩:=hx
 obtain⟨f2,f4⟩:=pj h2 h4 k2 k4
 have hll:(l++l').length=l.length+l'.length:=by simp
 have hap:=hS.ow.apart (rowOf e sz (some b) cap l) (by simp) b (by simp[rowOf,bB.row])
 have hxl:css.flatten.length=l.length*sz:=h1.1
 have htake:cur.toList.take (l.length*sz)=css.flatten:=by
  apply List.ext_getElem?;intro j;by_cases hj:j<l.length*sz
  . rw[List.getElem?_take,if_pos hj];have hjl:j<css.flatten.length:=by omega
    obtain⟨b',o,ha,_,hc⟩:=h1.2.2.2.2 j _ (List.getElem?_eq_getElem hjl);cases ha;rw[cell_of_row _ _ _ _ _ _ hcur,aI]at hc;rw[List.getElem?_eq_getElem hjl];simpa using hc
  . rw[List.getElem?_take,if_neg hj,List.getElem?_eq_none (by omega)]
 have hsum:l.length*sz+l'.length*sz<=cap*sz:=by rw[<- aM];exact Nat.mul_le_mul_right _ hroom
 have hclen:cur.toList.length=cap*sz:=by simpa using hcs
 generalize hnew:(cur.toList.take (l.length*sz)++dss.flatten++cur.toList.drop (l.length*sz+dss.flatten.length)).toArray=new
 have hnl:new.size=cap*sz:=by rw[<- hnew];simp only[List.size_toArray,ay,aG,aZ];omega
 have hnt:new.toList.take ((l.length+l'.length)*sz)=css.flatten++dss.flatten:=by
  rw[<- hnew,htake];simp only[];rw[show(l.length+l'.length)*sz=(css.flatten++dss.flatten).length by rw[ay,hxl,hyl,aM]];exact List.take_left
 have hb':=setRow_heap m.w b cur new e (0,0) hcur
 have hlt:=gQ hcur
 let X:Nat->Nat->Prop:=fun c o=>c=b/\o<(l++l').length*sz
 refine⟨⟨m.w.setRow b new,fun c o=>m.ok c o\/X c o⟩,rfl,?_,?_,?_⟩
 ·
  refine⟨rfl,rfl,rfl,by simp,fun c o hc=>⟨⟨.inl hc,by simpa using hc.2⟩,?_⟩⟩
  show(m.w.setRow b new).cell? _=_
  by_cases hcb:c=b
  . subst hcb
    have hlo:o<l.length*sz:=by
     refine ba fun hn=>?_
     exact hap o (by show l.length*sz<=o;omega) hc
    rw[cell_of_row _ _ _ _ _ _ hb',cell_of_row _ _ _ _ _ _ hcur]
    have e1:new.toList[o]?=(css.flatten)[o]?:=by
     have:(new.toList.take ((l.length+l'.length)*sz))[o]?=(css.flatten++dss.flatten)[o]?:=by rw[hnt]
     rw[List.getElem?_take,if_pos (by rw[aM];omega),List.getElem?_append_left (by omega)]at this;exact this
    have e2:cur.toList[o]?=(css.flatten)[o]?:=by
     rw[<- htake,List.getElem?_take,if_pos hlo]
    rw[<- Array.getElem?_toList,<- Array.getElem?_toList,e1,e2]
  . unfold World.cell?
    rw[setRow_other m.w b c new hcb]
 ·
  have k:St (bq [rowOf e sz (some b) cap l]) m ⟨m.w.setRow b new,fun c o=>m.ok c o\/X c o⟩ [rowOf e sz (some b) cap (l++l')]:=by
   refine⟨?_,fun c hc hn=>setRow_other m.w b c new (by simpa[rowOf,bB.row]using hn),fun c o hc=>?_,⟨by simp[rowOf,bB.row],fun x hx=>?_,fun x hx c hc o ho hm=>?_⟩,fun c hc=>?_⟩
   . refine⟨rfl,rfl,rfl,by simp,fun c o hc=>⟨⟨.inl hc,by simpa using hc.2⟩,?_⟩⟩;show(m.w.setRow b new).cell? _=_;by_cases hcb:c=b
     . subst hcb;have hlo:o<l.length*sz:=by
        refine ba fun hn=>?_
        exact hap o (by show l.length*sz<=o;omega) hc
       rw[cell_of_row _ _ _ _ _ _ hb',cell_of_row _ _ _ _ _ _ hcur];have e1:new.toList[o]?=(css.flatten)[o]?:=by
        have:(new.toList.take ((l.length+l'.length)*sz))[o]?=(css.flatten++dss.flatten)[o]?:=by rw[hnt]
        rw[List.getElem?_take,if_pos (by rw[aM];omega),List.getElem?_append_left (by omega)]at this;exact this
       have e2:cur.toList[o]?=(css.flatten)[o]?:=by
        rw[<- htake,List.getElem?_take,if_pos hlo]
       rw[<- Array.getElem?_toList,<- Array.getElem?_toList,e1,e2]
     . unfold World.cell?;rw[setRow_other m.w b c new hcb]
   . rcases hc.1 with h|h
     . exact .inl h
     . exact .inr (.inr (by simp[rowOf,bB.row,h.1]))
   . simp at hx;subst hx;intro c hc;cases hc;exact⟨new,hb',hnl⟩
   . simp at hx;subst hx;simp[rowOf,bB.row]at hc;subst hc;have ho':(l++l').length*sz<=o:=ho;rcases hm.1 with h|h
     . exact hap o (by show l.length*sz<=o;rw[hll,aM]at ho';omega) h
     . have h2:o<(l++l').length*sz:=h.2;omega
   . simp[rowOf,bB.row]at hc;subst hc;exact .inl (by simp[rowOf,bB.row])
  exact St.frame (L:=[rowOf e sz (some b) cap l]) hS k
 ·
  refine⟨css++dss,⟨?_,by simpa using hroom,h1.2.2.1,(fun h=>by cases h),fun j v hv=>⟨b,0,rfl,⟨.inr ⟨rfl,?_⟩,by simpa using hlt⟩,?_⟩⟩,f2,fun i x cs hx hc=>⟨(f4 i x cs hx hc).1,?_⟩⟩
  . simp only[aY,ay,hxl,hyl,aM]
  . have:j<(css++dss).flatten.length:=(List.getElem?_eq_some_iff.1 hv).1
    simp only[aY,ay]at this
    rw[hll,aM];omega
  . rw[cell_of_row _ _ _ _ _ _ hb',aI,<- Array.getElem?_toList]
    have hjl:j<(css++dss).flatten.length:=(List.getElem?_eq_some_iff.1 hv).1
    simp only[aY,ay]at hjl
    have:(new.toList.take ((l.length+l'.length)*sz))[j]?=(css.flatten++dss.flatten)[j]?:=by rw[hnt]
    rw[List.getElem?_take,if_pos (by rw[aM];omega)]at this
    rw[this,<- aY];exact hv
  . refine hR.mono (f4 i x cs hx hc).2 ?_
    refine⟨rfl,rfl,rfl,by simp,fun c o hc=>⟨⟨.inl hc,by simpa using hc.2⟩,?_⟩⟩
    show(m.w.setRow b new).cell? _=_
    by_cases hcb:c=b
    . subst hcb
      have hlo:o<l.length*sz:=by
       refine ba fun hn=>?_
       exact hap o (by show l.length*sz<=o;omega) hc
      rw[cell_of_row _ _ _ _ _ _ hb',cell_of_row _ _ _ _ _ _ hcur]
      have e1:new.toList[o]?=(css.flatten)[o]?:=by
       have:(new.toList.take ((l.length+l'.length)*sz))[o]?=(css.flatten++dss.flatten)[o]?:=by rw[hnt]
       rw[List.getElem?_take,if_pos (by rw[aM];omega),List.getElem?_append_left (by omega)]at this;exact this
      have e2:cur.toList[o]?=(css.flatten)[o]?:=by
       rw[<- htake,List.getElem?_take,if_pos hlo]
      rw[<- Array.getElem?_toList,<- Array.getElem?_toList,e1,e2]
    . unfold World.cell?
      rw[setRow_other m.w b c new hcb]
theorem tX(hT:cj P t e z sz bytes)(hR:jB R sz){g:Option Nat}{cap:Nat}{l l':List α}(hS:St B m0 m (rowOf e sz g cap l::L))(hx:cz R m sz (dA g) cap l)
 {a2:Option Addr} {cap2:Nat} (hy:FQ R m sz a2 cap2 l') (hroom:l.length+l'.length<=cap):
 ∃m',(Builtin.append_ #[t,t] ty #[.slice (dA g) l.length cap,.slice a2 l'.length cap2]).run P m.w=.ok (.slice (dA g) (l++l').length cap) m'.w/\
  Le m m'/\St B m0 m' (rowOf e sz g cap (l++l')::L)/\cz R m' sz (dA g) cap (l++l'):=by
 obtain⟨css,h1,h2,h4⟩:=hx
 obtain⟨dss,k1,k2,k4⟩:=hy
 have hone:=iK hR k2 k4
 cases g with
 |none=>
  have hc:=h1.2.2.2.1 rfl
  have e1:l=[]:=bh (by omega)
  have e2:l'=[]:=bh (by omega)
  subst e1 e2 hc
  have:=oX (P:=P) (ty:=ty) hT none 0 0 #[] (fun b h=>by cases h) (fun h=>absurd rfl h) (fun _=>rfl) a2 0 cap2 _ k1 hone (by simp)
  exact⟨m,by simpa using this,Le.refl m,by simpa using hS,⟨css,h1,h2,h4⟩⟩
 |some b=>
  have hent:=hS.ow.ok (rowOf e sz (some b) cap l) (by simp)
  obtain⟨cur,hcur,hcs⟩:=hent b rfl
  have hrun:=oX (P:=P) (ty:=ty) hT (some b) l.length cap cur (fun c h=>by cases h;exact hcur) (fun _=>hcs) (fun h=>by cases h) a2 l'.length cap2 _ k1 hone hroom
  cases a2 with
  |none=>
   have hc:=k1.2.2.2.1 rfl
   have e2:l'=[]:=bh (by have:=k1.2.1;omega)
   subst e2
   have hE:cz R m sz (dA (some b)) cap (l++[]):=by rw[aU];exact⟨css,h1,h2,h4⟩
   exact⟨m,by simpa using hrun,Le.refl m,by simpa using hS,hE⟩
  |some ad=>
   obtain⟨m',r1,r2,r3,r4⟩:=D5 hR hS ⟨css,h1,h2,h4⟩ k2 k4 k1.1 hroom hcur hcs
   exact⟨m',by rw[r1];simpa using hrun,r2,r3,r4⟩
theorem Es(hT:cj P t e z sz bytes)(hR:jB R sz){g:Option Nat}{cap:Nat}{l l':List α}(hS:St B m0 m (rowOf e sz g cap l::L))(hx:cz R m sz (dA g) cap l)
 {a2:Option Addr} {cap2:Nat} (hy:cz R m sz a2 cap2 l') (hroom:l.length+l'.length<=cap):
 ∃m',(Builtin.append_ #[t,t] ty #[.slice (dA g) l.length cap,.slice a2 l'.length cap2]).run P m.w=.ok (.slice (dA g) (l++l').length cap) m'.w/\
  Le m m'/\St B m0 m' (rowOf e sz g cap (l++l')::L)/\cz R m' sz (dA g) cap (l++l'):=tX hT hR hS hx hy.src hroom
theorem tY(hT:cj P t e z sz bytes)(hR:jB R sz){g:Option Nat}{cap:Nat}{l l':List α}(hS:St B m0 m (rowOf e sz g cap l::L))(hx:cz R m sz (dA g) cap l)
 {a2:Option Addr} {cap2:Nat} (hy:cz R m sz a2 cap2 l') (hlen:(l.length+l'.length)*bytes<=140737488355328) (h63:l.length+l'.length<=maxLen):
 ∃g' cap' m',(Builtin.append_ #[t,t] ty #[.slice (dA g) l.length cap,.slice a2 l'.length cap2]).run P m.w=.ok (.slice (dA g') (l++l').length cap') m'.w/\
  Le m m'/\St B m0 m' (rowOf e sz g' cap' (l++l')::L)/\cz R m' sz (dA g') cap' (l++l'):=by
 obtain⟨css,h1,h2,h4⟩:=hx
 obtain⟨dss,k1,k2,k4⟩:=hy
 have hone:=iK hR k2 k4
 obtain⟨f2,f4⟩:=pj h2 h4 k2 k4
 have hll:(l++l').length=l.length+l'.length:=by simp
 have hcl:=cz.lens f2 f4
 by_cases hroom:l.length+l'.length<=cap
 . obtain⟨m',r1,r2,r3,r4⟩:=Es (ty:=ty) hT hR hS ⟨css,h1,h2,h4⟩ ⟨dss,k1,k2,k4⟩ hroom
   exact⟨g,cap,m',r1,r2,r3,r4⟩
 ·
  obtain⟨cap',cur,hrun,hcs,hge,hcm,htake⟩:=nw (P:=P) (ty:=ty) hT (dA g) l.length cap _ h1 a2 l'.length cap2 _ k1.all hone hlen h63 (by omega)
  have hS1:=hS.drop
  have hg:Below m.w.heap.size m.w (m.w.drew.alloc (.cells cur e (0,0))):=((Below.refl _ _).drew).alloc (Nat.le_refl _) _
  have hb':(m.w.drew.alloc (.cells cur e (0,0))).heap[m.w.heap.size]?=some (.cells cur e (0,0)):=heap_alloc_new m.w.drew _
  let X:Nat->Nat->Prop:=fun c o=>c=m.w.heap.size/\o<(l++l').length*sz
  have hle:Le m ⟨m.w.drew.alloc (.cells cur e (0,0)),fun c o=>m.ok c o\/X c o⟩:=
   ⟨rfl,rfl,rfl,Below.size hg,fun c o hc=>⟨⟨.inl hc,Nat.lt_of_lt_of_le hc.2 (Below.size hg)⟩,nZ hg hc.2⟩⟩
  have k:St [] m ⟨m.w.drew.alloc (.cells cur e (0,0)),fun c o=>m.ok c o\/X c o⟩ [rowOf e sz (some m.w.heap.size) cap' (l++l')]:=by
   refine⟨hle,fun c hc _=>Below.block hg c hc,fun c o hc=>?_,⟨by simp[rowOf,bB.row],fun x hx=>?_,fun x hx c hc o ho hm=>?_⟩,fun c hc=>?_⟩
   . rcases hc.1 with h|h
     . exact .inl h
     . exact .inr (.inl (by rw[h.1];exact Nat.le_refl _))
   . simp at hx;subst hx;intro c hc;cases hc;exact⟨cur,hb',hcs⟩
   . simp at hx;subst hx;simp[rowOf,bB.row]at hc;subst hc;have ho':(l++l').length*sz<=o:=ho;rcases hm.1 with h|h
     . exact absurd h.2 (by simp)
     . have h2:o<(l++l').length*sz:=h.2;omega
   . simp[rowOf,bB.row]at hc;subst hc;exact .inr (Nat.le_refl _)
  refine⟨some m.w.heap.size,cap',_,by simpa using hrun,hle,hS1.call k,?_⟩
  refine⟨css++dss,⟨?_,by simpa using hge,hcm,(fun h=>by cases h),fun j v hv=>⟨m.w.heap.size,0,rfl,⟨.inr ⟨rfl,?_⟩,by simp⟩,?_⟩⟩,f2,fun i x cs hx hc=>⟨(f4 i x cs hx hc).1,hR.mono (f4 i x cs hx hc).2 hle⟩⟩
  . simp only[aY,ay,h1.1,k1.1,aM]
  . have:j<(css++dss).flatten.length:=(List.getElem?_eq_some_iff.1 hv).1
    simp only[aY,ay,h1.1,k1.1]at this
    rw[hll,aM];omega
  . show(m.w.drew.alloc (.cells cur e (0,0))).cell? _=_
    rw[cell_of_row _ _ _ _ _ _ hb',aI,<- Array.getElem?_toList]
    have hjl:j<(css++dss).flatten.length:=(List.getElem?_eq_some_iff.1 hv).1
    simp only[aY,ay,h1.1,k1.1]at hjl
    have:(cur.toList.take ((l.length+l'.length)*sz))[j]?=(css.flatten++dss.flatten)[j]?:=by rw[htake]
    rw[List.getElem?_take,if_pos (by rw[aM];omega)]at this
    rw[this,<- aY];exact hv
end
end
section
open Go.RowKit G
theorem hC{d t:Nat}(e:¬ d=t):Nat.beq d t=false:=by
 cases h:Nat.beq d t with
 |true=>exact absurd (af h) e
 |false=>rfl
theorem BP{p:Nat->Prop}:∀k,p k->∃j,p j/\∀i,p i->j<=i:=by
 intro k
 induction k using Nat.strongRecOn with
 |_ k ih=>
  intro hk
  by_cases h:∃j,j<k/\p j
  . obtain⟨j,hj,hp⟩:=h;exact ih j hj hp
  . exact⟨k,hk,fun i hi=>Nat.le_of_not_lt fun hlt=>h ⟨i,hlt,hi⟩⟩
abbrev Kt:=List (Nat×Value)
def lk:Kt->Nat->Option Value
 |[],_=>none
 |(s,v)::K,t=>match Nat.beq s t with|true=>some v|false=>lk K t
def dZ(K:Kt):Operand->Option Value
 |.tmp t=>lk K t
 |.const v=>some v
 |.global g=>some (.pointer (some ⟨g,0,none⟩))
 |.func f=>some (.func (.func f) #[] #[])
def Ke(a:Act)(K:Kt):Prop:=∀t v,lk K t=some v->a.eval (.tmp t)=v
theorem Ke.nil(a:Act):Ke a []:=fun t v h=>by simp[lk]at h
theorem Ke.cons{a:Act}{K:Kt}{t:Nat}{v:Value}(h:a.eval (.tmp t)=v)(hK:Ke a K):Ke a ((t,v)::K):=fun s u hu=>by
 unfold lk at hu;by_cases e:t=s
 . subst e;simp at hu;subst hu;exact h
 . rw[hC e]at hu;exact hK s u hu
theorem Ke.ev{a:Act}{K:Kt}(h:Ke a K){x:Operand}{v:Value}(hx:dZ K x=some v):a.eval x=v:=by
 cases x with
 |tmp t=>exact h t v hx
 |const c=>simp[dZ]at hx;exact hx
 |global g=>simp[dZ]at hx;exact hx
 |func f=>simp[dZ]at hx;exact hx
def FW(r:Option Nat):Fence:={fn:=fun _=>True,depth:=none,alive:=false,round:=r}
structure Kn(n:Nat)(a:Act)(K:Kt)(ds:List Deferred:=[]):Prop where
 size:a.tmps.size=n
 defers:a.defers=ds
 at_:Ke a K
section
variable {n:Nat}{a:Act}{K K':Kt}{ds:List Deferred}
theorem Kn.ev(h:Kn n a K ds){x:Operand}{v:Value}(hx:dZ K x=some v):a.eval x=v:=h.at_.ev hx
theorem Kn.put(h:Kn n a K ds){d:Nat}(v:Value)(hd:d<n):Kn n (a.put (some d) v) ((d,v)::K) ds:=by
 refine⟨by simp[Act.put,h.size],h.defers,fun t u hu=>?_⟩;unfold lk at hu;by_cases e:d=t
 . subst e;simp at hu;subst hu;simp[Act.put,Act.eval,Array.getD,h.size,hd]
 . have:Nat.beq d t=false:=hC e;rw[this]at hu;rw[Act.eval_put (fun d' hd' e'=>by cases hd';cases e';exact e rfl)];exact h.at_ t u hu
def only(K:Kt):List Nat->Kt
 |[]=>[]
 |t::ts=>match lk K t with|some v=>(t,v)::only K ts|none=>only K ts
end
def kU(P:Program)(bF:Value->World->Prop):Result Next->Prop
 |.ok (.value v) w'=>bF v w'
 |.ok .skip w'=>bF undef w'
 |.ok (.enter f args) w'=>Calls P f args w' fun e w''=>∃v,e=.returned v/\bF v w''
 |.ok (.round l f tmps dV body) w'=>RoundIn (FW none) 0 P l f tmps dV body w' fun e w''=>∃v,e=.returned v/\bF v w''
 |_=>False
def bp(P:Program)(o:Oper)(a:Act)(w:World)(bF:Value->World->Prop):Prop:=kU P bF ((execOp a.eval o).run P w)
theorem bp.Ho{P:Program}{o:Oper}{a:Act}{w:World}{bF:Value->World->Prop}(h:bp P o a w bF):∀c,o.op≠ .defer c:=by
 intro c hc;unfold bp execOp at h;simp only[hc,Sem.run_bind]at h;generalize (resolve a.eval c o.type).run P w=r at h;cases r<;>simp[Result.andThen,Sem.run_pure,kU]at h
theorem zt{P:Program}{f:FuncId}{args:Array Value}{w:World}{R:Ending->World->Prop}(r:Option Nat)(h:Calls P f args w R):CallsIn (FW r) 0 P f args w R:=
 ⟨trivial,fun cs _=>let⟨e,w',fr,hr,s,x⟩:=h cs;⟨e,w',fr,hr,comesIn_wide.2 s,x⟩⟩
theorem HV{P:Program}{l:Nat}{f:FuncId}{tmps:Array Value}{dV body:Code}{w:World}{R:Ending->World->Prop}(r:Option Nat)(h:RoundIn (FW none) 0 P l f tmps dV body w R):RoundIn (FW r) 0 P l f tmps dV body w R:=h
theorem bp.wp{P:Program}{o:Oper}{a:Act}{w:World}{bF:Value->World->Prop}{K:Act->World->Prop}{Q:Exit->Act->World->Prop}{rr:Option Nat}
 (h:bp P o a w bF) (hK:∀v w',bF v w'->K (a.put o.dst v) w'):o.wpIn (FW rr) 0 P a w K Q:=by
 have hd:=h.Ho
 unfold bp at h
 unfold Oper.wpIn
 refine⟨fun _ _=>trivial,?_⟩
 rw[Oper.semAt_eq _ _ _ hd]
 generalize (execOp a.eval o).run P w=r at*
 cases r with
 |ok n w'=>
  cases n<;>simp only[kU]at h<;>simp only[Oper.uponIn]
  case value v=>exact hK _ _ h
  case skip=>exact hK _ _ h
  case enter f args=>exact⟨fun h=>by simp[FW]at h,zt rr (h.mono fun e w'' ⟨v,he,h1⟩=>by subst he;exact hK _ _ h1)⟩
  case round l f tmps dV body=>exact⟨fun h=>by simp[FW]at h,HV rr (h.mono fun e w'' ⟨v,he,h1⟩=>by subst he;exact hK _ _ h1)⟩
 |halt x w'=>simp only[kU]at h
theorem bp.mono{P:Program}{o:Oper}{a:Act}{w:World}{bF Post':Value->World->Prop}(h:bp P o a w bF)(hq:∀v w',bF v w'->Post' v w'):bp P o a w Post':=by
 unfold bp at*
 generalize (execOp a.eval o).run P w=r at*
 cases r with
 |ok n w'=>
  cases n<;>simp only[kU]at h ⊢
  case value v=>exact hq _ _ h
  case skip=>exact hq _ _ h
  case enter f args=>exact h.mono fun e w'' ⟨v,he,h1⟩=>⟨v,he,hq _ _ h1⟩
  case round l f tmps dV body=>exact h.mono fun e w'' ⟨v,he,h1⟩=>⟨v,he,hq _ _ h1⟩
 |halt x w'=>simp only[kU]at h
def mj(ops:Array Oper)(j:Nat):Option Nat:=(ops[j]?).bind (·.dst)
def mW(ops:Array Oper)(K:Kt):Option (Nat×Bool)->Bool
 |none=>true
 |some (j,b)=>match mj ops j with
  |some t=>match lk K t with
   |some (.bool c)=>c == b
   |_=>false
  |none=>false
def lM(ops:Array Oper)(K:Kt):Option (Nat×Bool)->Bool
 |none=>false
 |some (j,b)=>match mj ops j with
  |some t=>match lk K t with
   |some (.bool c)=>c !=b
   |some (.tuple _)=>true
   |_=>false
  |none=>false
section
variable {P:Program}{ops:Array Oper}{o:Oper}{n:Nat}{a:Act}{K:Kt}{ds:List Deferred}{w:World}{rest:List Oper}{Q:Exit->Act->World->Prop}{rr:Option Nat}
theorem Ei{t:Nat}{v:Value}(hv:a.eval (.tmp t)=v)(hu:v≠undef):a.tmps[t]?=some v:=by
 simp only[Act.eval,Array.getD_eq_getD_getElem?]at hv
 cases hq:a.tmps[t]? with
 |none=>rw[hq]at hv;exact absurd hv.symm hu
 |some u=>rw[hq]at hv;simpa using hv
theorem sD(hK:Kn n a K ds)(h:mW ops K o.guard=true):Region.wanted o (yielded ops a.tmps)=true:=by
 unfold mW at h
 cases hg:o.guard with
 |none=>simp[Region.wanted,hg]
 |some p=>
  obtain⟨j,b⟩:=p
  rw[hg]at h
  simp only at h
  cases hs:mj ops j with
  |none=>rw[hs]at h;cases h
  |some t=>
   rw[hs]at h
   simp only at h
   cases hl:lk K t with
   |none=>rw[hl]at h;cases h
   |some v=>
    rw[hl]at h
    cases v<;>simp only[aO]at h
    rename_i c
    have hcb:c=b:=by simpa using h
    subst hcb
    have ht:=Ei (hK.at_ t _ hl) (by simp[undef])
    unfold mj at hs
    simp[Region.wanted,hg,yielded,hs,ht]
theorem gZ(hK:Kn n a K ds)(h:lM ops K o.guard=true):Region.wanted o (yielded ops a.tmps)=false:=by
 unfold lM at h
 cases hg:o.guard with
 |none=>rw[hg]at h;cases h
 |some p=>
  obtain⟨j,b⟩:=p
  rw[hg]at h
  simp only at h
  cases hs:mj ops j with
  |none=>rw[hs]at h;cases h
  |some t=>
   rw[hs]at h
   simp only at h
   cases hl:lk K t with
   |none=>rw[hl]at h;cases h
   |some v=>
    rw[hl]at h
    have hv:=hK.at_ t _ hl
    unfold mj at hs
    cases v<;>simp only[aO]at h
    . rename_i c
      have ht:=Ei hv (by simp[undef])
      have hcb:c≠b:=by simpa using h
      simp[Region.wanted,hg,yielded,hs,ht,hcb]
    . rename_i vs
      have ht:∀c,a.tmps[t]?≠some (.bool c):=by
       intro c hc;simp[Act.eval,hc]at hv
      simp only[Region.wanted,hg,yielded,hs,ah]
      cases hq:a.tmps[t]? with
      |none=>rfl
      |some u=>cases u<;>first|rfl|(exact absurd hq (ht _))
def M8(ops:Array Oper)(o:Oper)(K:Kt)(n d:Nat):Bool:=mW ops K o.guard&&decide (o.dst=some d)&&decide (d<n)
def Cd(ops:Array Oper)(o:Oper)(K:Kt)(n d:Nat):Bool:=lM ops K o.guard&&decide (o.dst=some d)&&decide (d<n)
theorem Qe(d:Nat)(hK:Kn n a K ds)(hc:M8 ops o K n d=true)(h:bp P o a w fun v w'=>∀a',Kn n a' ((d,v)::K) ds->wpListIn (FW rr) 0 P ops Q rest a' w'):wpListIn (FW rr) 0 P ops Q (o::rest) a w:=by
 simp only[M8,al,bg]at hc;obtain⟨⟨h1,h2⟩,h3⟩:=hc;unfold wpListIn;rw[if_pos (sD hK h1)];exact h.wp fun v w' hp=>hp _ (by rw[h2];exact hK.put v h3)
theorem Nr(d:Nat)(hK:Kn n a K ds)(hc:Cd ops o K n d=true)(h:∀a',Kn n a' ((d,undef)::K) ds->wpListIn (FW rr) 0 P ops Q rest a' w):wpListIn (FW rr) 0 P ops Q (o::rest) a w:=by
 simp only[Cd,al,bg]at hc;obtain⟨⟨h1,h2⟩,h3⟩:=hc;unfold wpListIn;rw[if_neg (by rw[gZ hK h1];simp)];exact⟨fun _ _=>trivial,h _ (by rw[h2];exact hK.put undef h3)⟩
end
section
variable {P:Program}{Q:Exit->Act->World->Prop}{rr:Option Nat}{n:Nat}{a:Act}{K:Kt}{ds:List Deferred}{w:World}
theorem Ba{x y:Code}(h:x.wpIn (FW rr) 0 P (Exit.then (y.wpIn (FW rr) 0 P Q) Q) a w):(x.seq y).wpIn (FW rr) 0 P Q a w:=wpIn_seq h
theorem vW{id:Nat}{ops:Array Oper}(h:wpListIn (FW rr) 0 P ops Q ops.toList a w):(Code.region id ops false).wpIn (FW rr) 0 P Q a w:=wpIn_region_list h
theorem sB{next:Act->World->Prop}(h:next a w):Exit.then next Q .normal a w:=h
theorem Iy{next:Act->World->Prop}{i:Nat}(h:Q (.exit i) a w):Exit.then next Q (.exit i) a w:=h
theorem Oe{i:Nat}(h:Q .normal a w):Exit.inBlock i Q (.exit i) a w:=by show(if i=i then _ else _);rw[if_pos rfl];exact h
theorem Og{i j:Nat}(hne:j≠i)(h:Q (.exit j) a w):Exit.inBlock i Q (.exit j) a w:=by show(if j=i then _ else _);rw[if_neg hne];exact h
theorem IC{c:Code}(I:Nat->Act->World->Prop)(h0:∃k0,I k0 a w)(round:∀k a w,I k a w->c.wpIn (FW rr) 0 P (Exit.then (fun a' w'=>∃k',k'<k/\I k' a' w') Q) a w):(Code.loop c).wpIn (FW rr) 0 P Q a w:=by
 have hmin:∀a w,(∃k,I k a w)->∃j,I j a w/\∀i,I i a w->j<=i:=fun a w ⟨k,hk⟩=>BP k hk
 refine wpIn_loop (fun a w=>∃k,I k a w) (fun a w=>Classical.epsilon fun j=>I j a w/\∀i,I i a w->j<=i) h0 fun a w hI=>?_
 have hm:=Classical.epsilon_spec (hmin a w hI);refine wpIn_mono (round _ a w hm.1) fun e a' w' hq=>?_
 cases e with
 |normal=>
  obtain⟨k',hlt,hk⟩:=hq
  exact⟨⟨k',hk⟩,Nat.lt_of_le_of_lt ((Classical.epsilon_spec (hmin a' w' ⟨k',hk⟩)).2 k' hk) hlt⟩
 |exit i=>exact hq
 |goto l=>exact hq
 |ret=>exact hq
 |panic c=>exact hq
 |outgrown=>exact hq
end
def pT:Nat->List Value->Kt
 |_,[]=>[]
 |i,v::vs=>(i,v)::pT (i+1) vs
theorem Ag:∀(vs:List Value) (i t:Nat) (v:Value),lk (pT i vs) t=some v->i<=t/\vs[t-i]?=some v
 |[],_,_,_,h=>by simp[pT,lk]at h
 |u::vs,i,t,v,h=>by
  unfold pT lk at h;by_cases e:i=t
  . subst e;simp at h;subst h;simp
  . have hb:Nat.beq i t=false:=hC e;rw[hb]at h;obtain⟨h1,h2⟩:=Ag vs (i+1) t v h;refine⟨by omega,?_⟩;rw[show t-i=(t-(i+1))+1 by omega];simpa using h2
def uE(P:Program)(fn:Func)(m:Mem)(L:List bB)(Q:Value->Mem->List bB->Prop):Exit->Act->World->Prop:=
 bodyPostM (FW none) 0 P fn fun e w'=>∃v m' L',e=.returned v/\m'.w=w'/\St (bq L) m m' L'/\Q v m' L'
theorem G6{fn:Func}{args:List Value}(n:Nat)(hn:fn.ntmps=n)(hle:args.length<=n):Kn n {tmps:=args.toArray++Array.replicate (fn.ntmps-args.toArray.size) undef,defers:=[]} (pT 0 args):=by
 refine⟨by simp[hn];omega,rfl,fun t v hv=>?_⟩;obtain⟨_,h2⟩:=Ag args 0 t v hv;have ht:t<args.length:=(List.getElem?_eq_some_iff.1 h2).1;simp only[Act.eval,Array.getD_eq_getD_getElem?];rw[Array.getElem?_append_left (by simpa using ht)];simpa using congrArg (Option.getD · undef) h2
theorem enter{P:Program}{f:FuncId}{fn:Func}{c:Code}{args:List Value}{m:Mem}{L:List bB}{Q:Value->Mem->List bB->Prop}(n:Nat)(hf:P.funcs[f]?=some fn)(hb:fn.body=some c)
 (hn:fn.ntmps=n) (hle:args.length<=n) (h:∀a,Kn n a (pT 0 args)->c.wpIn (FW none) 0 P (uE P fn m L Q) a m.w):Spec P f args.toArray m L Q:=
 callsIn_wide.1 (callsIn_of_wp_marks (F:=FW none) (n:=0) hf hb trivial (h _ (G6 n hn hle)) rfl)
def pq(d:TypeDesc):Bool:=match d with| .struct _| .array _ _=>true|_=>false
def dw(P:Program)(t:TypeId):Option (Bool×Nat):=match P.underlying t,P.info? t with|some d,some i=>some (pq d,i.size)|_,_=>none
theorem eX{P:Program}{t:TypeId}{b:Bool}{s:Nat}(h:dw P t=some (b,s)):∃d i,P.underlying t=some d/\P.info? t=some i/\pq d=b/\i.size=s:=by
 unfold dw at h
 cases hu:P.underlying t with
 |none=>simp[hu]at h
 |some d=>
  cases hi:P.info? t with
  |none=>simp[hu,hi]at h
  |some i=>simp[hu,hi]at h;exact⟨d,i,rfl,rfl,h.1,h.2⟩
section
variable {P:Program}{w:World}{t:TypeId}
theorem fS{d:TypeDesc}(hu:P.underlying t=some d):(isAgg t).run P w=.ok (pq d) w:=by
 unfold isAgg;rw[Sem.run_bind,run_underlying hu];cases d<;>rfl
theorem ov{b o:Nat}{v:Value}{s:Nat}(hT:dw P t=some (false,s))(hc:w.cell? ⟨b,o,none⟩=some v):(loadVar t ⟨b,o,none⟩).run P w=.ok v w:=by
 obtain⟨d,i,hu,hi,hd,hs⟩:=eX hT;simp[loadVar,fS hu,hd,hc]
theorem su{b o:Nat}{cs:List Value}(hT:dw P t=some (true,cs.length))(hc:∀k v,cs[k]?=some v->w.cell? ⟨b,o+k,none⟩=some v):(loadVar t ⟨b,o,none⟩).run P w=.ok (.agg cs.toArray) w:=by
 obtain⟨d,i,hu,hi,hd,hs⟩:=eX hT;have:=run_loadCells_list (P:=P) w ⟨b,o,none⟩ cs (fun j v hv=>by rw[Addr.add_mid];exact hc j v hv);simp[loadVar,fS hu,hd,sizeOf,typeInfo,hi,hs,this]
end
inductive tR(P:Program)(K:Kt)(w:World):List ResultVar->List Value->Prop
 |nil:tR P K w [] []
 |tmp {t:Nat} {v:Value} {rs:List ResultVar} {vs:List Value}:lk K t=some v->tR P K w rs vs->tR P K w (.tmp t::rs) (v::vs)
 |one {p:Nat} {T:TypeId} {s b o:Nat} {v:Value} {rs:List ResultVar} {vs:List Value}:dw P T=some (false,s)->lk K p=some (.pointer (some ⟨b,o,none⟩))->w.cell? ⟨b,o,none⟩=some v->tR P K w rs vs->tR P K w (.cell p T::rs) (v::vs)
 |agg {p:Nat} {T:TypeId} {b o:Nat} {cs:List Value} {rs:List ResultVar} {vs:List Value}:dw P T=some (true,cs.length)->lk K p=some (.pointer (some ⟨b,o,none⟩))->(∀k v,cs[k]?=some v->w.cell? ⟨b,o+k,none⟩=some v)->
  tR P K w rs vs->tR P K w (.cell p T::rs) (.agg cs.toArray::vs)
def sY:List Value->Value
 |[v]=>v
 |vs=>.tuple vs.toArray
section
variable {P:Program}{n:Nat}{a:Act}{K:Kt}{ds:List Deferred}{w:World}
theorem pJ(x:Addr):(asAddr (.pointer (some x))).run P w=.ok x w:=rfl
theorem HZ(hK:Kn n a K ds)(f:ResultVar->Sem Value)(hf1:∀t,f (.tmp t)=pure (a.tmps.getD t undef))(hf2:∀p t,f (.cell p t)=(do loadVar t (<- asAddr (a.tmps.getD p undef)))):
 ∀(rs:List ResultVar) (vs:List Value),tR P K w rs vs->(rs.mapM f).run P w=.ok vs w:=by
 intro rs vs h
 induction h with
 |nil=>simp
 |tmp hl _ ih=>
  have:=hK.at_ _ _ hl
  simp only[Act.eval]at this
  simp only[List.mapM_cons,hf1,hf2,Sem.run_bind,Sem.run_pure,Result.andThen_ok,this,ih]
 |one hT hp hc _ ih=>
  have:=hK.at_ _ _ hp
  simp only[Act.eval]at this
  simp only[List.mapM_cons,hf1,hf2,Sem.run_bind,Sem.run_pure,Result.andThen_ok,this,pJ,ov hT hc,ih]
 |agg hT hp hc _ ih=>
  have:=hK.at_ _ _ hp
  simp only[Act.eval]at this
  simp only[List.mapM_cons,hf1,hf2,Sem.run_bind,Sem.run_pure,Result.andThen_ok,this,pJ,su hT hc,ih]
theorem AQ{fn:Func}{rs:List ResultVar}{vs:List Value}(hr:fn.results=rs.toArray)(hK:Kn n a K ds)(h:tR P K w rs vs):(results fn a.tmps).run P w=.ok (sY vs) w:=by
 have h1:=fun f h1 h2=>HZ (P:=P) (w:=w) hK f h1 h2 rs vs h
 have hm:∀x:Sem (List Value),(List.toArray <$> x:Sem (Array Value))=x >>= fun l=>pure l.toArray:=fun _=>rfl
 unfold results;rw[hr,List.mapM_toArray,hm];simp only[Sem.run_bind,Sem.run_pure];rw[h1 _ (fun _=>rfl) (fun _ _=>rfl)];simp only[Result.andThen_ok,Sem.run_pure];congr 1
 match vs with
 |[]=>rfl
 |[v]=>rfl
 |v::u::r=>simp[sY]
theorem Ns{fn:Func}{m m':Mem}{L L':List bB}{Q:Value->Mem->List bB->Prop}(rs:List ResultVar)(vs:List Value)(hr:fn.results=rs.toArray)(hK:Kn n a K)(h:tR P K m'.w rs vs)(hS:St (bq L) m m' L')(hq:Q (sY vs) m' L'):
 uE P fn m L Q .ret a m'.w:=by
 show LeavesInM _ _ _ _ _ _ a.defers _ _
 rw[hK.defers]
 exact⟨sY vs,AQ hr hK h,sY vs,m',L',rfl,rfl,hS,hq⟩
end
section
variable {P:Program}{o:Oper}{n:Nat}{a:Act}{K:Kt}{ds:List Deferred}{B:List Nat}{m0 m:Mem}{L:List bB}{bF:Value->World->Prop}{x y:Operand}{t:TypeId}
theorem ue{b i:Nat}{cs:Array Value}{T:TypeId}(hS:St B m0 m L)(k:Nat)(hk:L[k]?=some (.box b cs T)):m.w.cell? ⟨b,i,none⟩=cs[i]?:=
 cell_of_row _ _ _ _ _ _ (hS.ud k hk)
theorem Pa{v:Value}(hK:Ke a K)(hS:St B m0 m L)(ho:o.op=.box t x)(hx:dZ K x=some v)
 (hp:∀m' b,m.w.heap.size<=b->Le m m'->St B m0 m' (.box b v.cells t::L)->bF (.pointer (some ⟨b,0,none⟩)) m'.w):bp P o a m.w bF:=by
 unfold bp execOp
 simp only[ho,hK.ev hx,Instr.box,newVar,newRow,newObj,Sem.run_bind,Sem.run_pure,Result.andThen_ok,Sem.run]
 have h:=hS.rR v.cells t
 exact hp _ _ (Nat.le_refl _) (St.new (St.refl (Ow.nil m)) rfl (.box m.w.heap.size v.cells t) rfl (cR _ _)).le h
theorem gX{z:Value}{w:World}(hz:(P.info? t).map (·.zero)=some (some z)):(zeroValue t).run P w=.ok z w:=by
 cases hi:P.info? t with
 |none=>simp[hi]at hz
 |some i=>
  have hz:i.zero=some z:=by simpa[hi]using hz
  simp[zeroValue,typeInfo,hi,hz]
theorem KA(z:Value)(hK:Ke a K)(hS:St B m0 m L)(ho:o.op=.alloc t)(hz:(P.info? t).map (·.zero)=some (some z))
 (hp:∀m' b,m.w.heap.size<=b->Le m m'->St B m0 m' (.box b z.cells t::L)->bF (.pointer (some ⟨b,0,none⟩)) m'.w):bp P o a m.w bF:=by
 unfold bp execOp
 simp only[ho,Instr.alloc,newVar,newRow,newObj,Sem.run_bind,Sem.run_pure,Result.andThen_ok,gX hz,Sem.run]
 have h:=hS.rR z.cells t
 exact hp _ _ (Nat.le_refl _) (St.new (St.refl (Ow.nil m)) rfl (.box m.w.heap.size z.cells t) rfl (cR _ _)).le h
def putAt(cs:Array Value)(i:Nat)(vs:List Value):Array Value:=(cs.toList.take i++vs++cs.toList.drop (i+vs.length)).toArray
theorem Cv{w:World}{b i:Nat}{cs:Array Value}{T:TypeId}{v:Value}(hb:w.heap[b]?=some (.cells cs T (0,0)))(hT:(dw P t).map (·.2)=some v.cells.size)(hfit:i+v.cells.size<=cs.size)(h1:v.cells.toList.all (·.oneCell')=true):
 ∃w',(storeVar t ⟨b,i,none⟩ v).run P w=.ok () w'/\w.grownBy w' (some b)/\w'.heap.size=w.heap.size/\w'.heap[b]?=some (.cells (putAt cs i v.cells.toList) T (0,0)):=by
 obtain⟨inf,hi,hsz⟩:∃i,P.info? t=some i/\i.size=v.cells.size:=by
  cases ha:dw P t with
  |none=>simp[ha]at hT
  |some p=>
   obtain⟨d,i,hu,hi,hd,hsz⟩:=eX (b:=p.1) (s:=p.2) ha
   exact⟨i,hi,by rw[ha]at hT;simpa[hsz]using hT⟩
 have hst:=run_storeCells_at P b i T v.cells.toList 0 cs w hb (by simp;omega) (fun u hu=>aF.1 h1 u hu)
 simp only[Nat.add_zero]at hst
 refine⟨_,?_,?_,?_,setRow_heap w b cs _ T _ hb⟩
 . simp[storeVar,sizeOf,typeInfo,hi,hsz,hst,putAt]
 . exact⟨rfl,rfl,rfl,by simp,fun k _ hk=>setRow_other w b k _ (fun e=>hk (by rw[e]))⟩
 . simp
theorem Ea{b i:Nat}{cs:Array Value}{T:TypeId}{v:Value}(hK:Ke a K)(k:Nat)(hS:St B m0 m L)(ho:o.op=.store t x y)(hx:dZ K x=some (.pointer (some ⟨b,i,none⟩)))(hy:dZ K y=some v)(hk:L[k]?=some (.box b cs T))
 (hT:(dw P t).map (·.2)=some v.cells.size) (hfit:decide (i+v.cells.size<=cs.size)=true) (h1:v.cells.toList.all (·.oneCell')=true)
 (hp:∀m',Le m m'->St B m0 m' (.box b (putAt cs i v.cells.toList) T::L.eraseIdx k)->bF undef m'.w):bp P o a m.w bF:=by
 obtain⟨w',h2,h3,h4,h5⟩:=Cv (P:=P) (t:=t) (hS.ud k hk) hT (aX hfit) h1
 have hS1:=hS.front k hk
 have hS2:=hS1.write h3 h4 h5
 have hr:St (bq (bB.box b cs T::L.eraseIdx k)) m ⟨w',m.ok⟩ _:=(St.refl hS1.ow).write h3 h4 h5
 unfold bp execOp
 simp only[ho,hK.ev hx,hK.ev hy,Instr.storeAt,Instr.sureAddr,Sem.run_bind,Sem.run_pure,Result.andThen_ok,h2]
 exact hp ⟨w',m.ok⟩ hr.le hS2
end
def Enters(P:Program)(f:FuncId):Prop:=∀(args:Array Value) (w:World),(callFunc f args).run P w=.ok (.enter f args) w
theorem enters_of{P:Program}{f:FuncId}{fn:Func}(hf:P.funcs[f]?=some fn)(h1:(fn.name == "runtime.NumGoroutine")=false)(h2:fn.body.isNone=false):Enters P f:=by
 intro args w;have e1:fn.name≠ "runtime.NumGoroutine" :=by simpa using h1
 have e2:fn.body≠none:=by intro e;simp[e]at h2
 simp[callFunc,program,Sem.run,hf,e1,e2]
section
variable {P:Program}{o:Oper}{n:Nat}{a:Act}{K:Kt}{ds:List Deferred}{B:List Nat}{m0 m:Mem}{L:List bB}{bF:Value->World->Prop}{x y:Operand}{t e:TypeId}{α:Type}{R:Mem->α->List Value->Prop}{sz:Nat}
theorem fU{w:World}{z:Value}{bytes:Nat}(hT:cj P t e z sz bytes):(sizeOf e).run P w=.ok sz w:=by
 obtain⟨i,hi,hz,hs,hb⟩:=info_parts hT.info;simp[sizeOf,typeInfo,hi,hs]
theorem KC[Inhabited α]{z:Value}{bytes:Nat}{ad:Option Addr}{cap:Nat}{l:List α}{k:IntKind}{i:Int}(hT:cj P t e z sz bytes)(hE:cz R m sz ad cap l)(j:Nat)(hK:Ke a K)(ho:o.op=.indexAddr t x y)(hx:dZ K x=some (.slice ad l.length cap))(hy:dZ K y=some (.int k i))
 (hij:i=(j:Int)) (hj:j<l.length) (hp:∀b p cs,R m l[j]! cs->At m b p cs->bF (.pointer (some ⟨b,p,none⟩)) m.w):bp P o a m.w bF:=by
 subst hij
 rw[getElem!_pos l j hj]at hp
 obtain⟨b,q,cs,rfl,hl,hr,hA⟩:=hE.get hT.pos hj
 have hb:(0:Int)<=(j:Int)/\(j:Int)<(l.length:Int):=⟨by omega,by omega⟩
 unfold bp execOp
 simp only[ho,hK.ev hx,hK.ev hy,Instr.indexAt,asIntOf,Sem.run_bind,Sem.run_pure,Result.andThen_ok,run_underlying hT.dU,fU hT,hb,and_self,if_true,aP,Addr.add_mid]
 exact hp b (q+j*sz) cs hr hA
theorem Kw{w:World}{ad:Option Addr}{k cap:Nat}{ty:TypeId}(hu:P.underlying t=some (.slice e)):(Builtin.len_ #[t] ty #[.slice ad k cap]).run P w=.ok (.int .i64 k) w:=by
 simp[Builtin.len_,run_underlying hu];rfl
theorem H6{z:Value}{bytes:Nat}{g:Option Nat}{cap cap2:Nat}{l l':List α}{a2:Option Addr}(hT:cj P t e z sz bytes)(hR:jB R sz)(hK:Ke a K)(k:Nat)(hS:St B m0 m L)(hk:L[k]?=some (rowOf e sz g cap l))(hE:cz R m sz (dA g) cap l)(hE2:cz R m sz a2 cap2 l')
 (ho:o.op=.call ⟨.builtin .append,#[x,y],#[t,t]⟩) (hx:dZ K x=some (.slice (dA g) l.length cap)) (hy:dZ K y=some (.slice a2 l'.length cap2)) (hlen:(l.length+l'.length)*bytes<=140737488355328)
 (hp:∀m' g' cap',Le m m'->St B m0 m' (rowOf e sz g' cap' (l++l')::L.eraseIdx k)->cz R m' sz (dA g') cap' (l++l')->bF (.slice (dA g') (l++l').length cap') m'.w) (h63:l.length+l'.length<=maxLen):bp P o a m.w bF:=by
 obtain⟨g',cap',m',h1,h2,h3,h4⟩:=tY (ty:=o.type) hT hR (hS.front k hk) hE hE2 hlen h63
 unfold bp execOp
 simp only[ho,resolve,invoke,builtin,Sem.run_bind,Sem.run_pure,Result.andThen_ok,aQ,aD,a7,hK.ev hx,hK.ev hy,h1]
 exact hp m' g' cap' h2 h3 h4
end
abbrev U8(c:UInt8):Value:=.int .u8 (c.toNat:Int)
def oL(_:Mem)(x:UInt8)(cs:List Value):Prop:=cs=[U8 x]
theorem Cq:jB oL 1:=⟨fun h _=>h,fun h=>by rw[h];rfl,fun h u hu=>by rw[h]at hu;simp at hu;subst hu;rfl,by decide⟩
inductive jW{α β:Type}(R:α->β->Prop):List α->List β->Prop
 |nil:jW R [] []
 |cons {a:α} {b:β} {l:List α} {l':List β}:R a b->jW R l l'->jW R (a::l) (b::l')
theorem jW.len{α β:Type}{R:α->β->Prop}{l:List α}{l':List β}(h:jW R l l'):l.length=l'.length:=by
 induction h with
 |nil=>rfl
 |cons _ _ ih=>simp[ih]
theorem cy{P:Program}{w:World}{k:IntKind}{j y:Nat}{c:BoundsCode}(h:j<=y):(Instr.sliceBound (.int k (j:Int)) y c).run P w=.ok j w:=by
 have hb:(0:Int)<=(j:Int)/\(j:Int)<=(y:Int):=⟨by omega,by omega⟩;simp only[Instr.sliceBound,asIntOf,Sem.run_bind,Sem.run_pure,Result.andThen_ok,hb,and_self,if_true,aP]
section
variable {P:Program}{o:Oper}{n:Nat}{a:Act}{K:Kt}{ds:List Deferred}{B:List Nat}{m0 m:Mem}{L:List bB}{bF:Value->World->Prop}{x y z:Operand}{t e:TypeId}{α:Type}{R:Mem->α->List Value->Prop}{sz:Nat}
theorem St.Bp(hS:St B m0 m L)(T:TypeId)(sz:Nat):St B m0 m (rowOf T sz none 0 ([]:List α)::L):=
 ⟨hS.le,hS.kept,hS.news,⟨by rw[c9];exact hS.ow.nodup,fun x hx=>by
  rcases aA.1 hx with rfl|hx
  . intro b hb;cases hb
  . exact hS.ow.ok x hx,fun x hx=>by
  rcases aA.1 hx with rfl|hx
  . intro b hb;simp[rowOf,bB.row]at hb
  . exact hS.ow.apart x hx⟩,fun b hb=>hS.lb b (by rw[c9]at hb;simpa[rowOf,bB.row]using hb)⟩
theorem Jt{l:List α}{b cap:Nat}(hR:jB R sz)(css:List (List Value)){cs:List Value}(hA:At m b 0 cs)(hcs:cs=css.flatten)(hm:cap<=maxLen)(h:jW (fun x c=>R m x c) l css)(hcap:l.length=cap:=by rfl):cz R m sz (some ⟨b,0,none⟩) cap l:=by
 subst hcs;subst hcap;have hl:css.length=l.length:=h.len.symm;refine cz.OZ hR hl (fun i x c hx hc=>?_) hA (Nat.le_refl _) hm;clear hA hm
 induction h generalizing i with
 |nil=>simp at hx
 |cons h1 _ ih=>
  cases i with
  |zero=>simp at hx hc;subst hx hc;exact h1
  |succ i=>exact ih (by simpa using hl) i (by simpa using hx) (by simpa using hc)
theorem fT{w:World}{zv:Value}{bytes:Nat}(hT:cj P t e zv sz bytes)(ad:Option Addr)(len cap l h:Nat)(lo hi:Option Value)(hb:(Instr.sliceBounds true len cap lo hi none).run P w=.ok (l,h,cap) w):
 (Instr.sliceAt t (.slice ad len cap) lo hi none).run P w=.ok (.slice (cm ad cap l sz) (h-l) (cap-l)) w:=by
 simp only[Instr.sliceAt,Sem.run_bind,run_underlying hT.dU,Result.andThen_ok,Instr.slice,hb,fU hT,Sem.run_pure]
 rfl
theorem sZ{zv:Value}{bytes:Nat}{ad:Option Addr}{cap:Nat}{l:List α}{k:IntKind}{i:Int}(hT:cj P t e zv sz bytes)(hE:cz R m sz ad cap l)(j:Nat)(hij:i=(j:Int))(hK:Ke a K)(ho:o.op=.slice t x (some y) none none)(hx:dZ K x=some (.slice ad l.length cap))(hy:dZ K y=some (.int k i))
 (hj:j<=l.length) (hp:bF (.slice (cm ad cap j sz) (l.drop j).length (cap-j)) m.w):bp P o a m.w bF:=by
 subst hij
 have:=fT (P:=P) (w:=m.w) hT ad l.length cap j l.length (some (.int k j)) none (by simp only[Instr.sliceBounds,Sem.run_bind,Sem.run_pure,Result.andThen_ok,cy hj])
 unfold bp execOp
 simp only[ho,ak,Option.map_none,hK.ev hx,hK.ev hy,Sem.run_bind,this,Result.andThen_ok,Sem.run_pure]
 rw[aZ]at hp;exact hp
theorem Fw{zv:Value}{bytes:Nat}{ad:Option Addr}{cap:Nat}{l:List α}{k:IntKind}{i:Int}(hT:cj P t e zv sz bytes)(hE:cz R m sz ad cap l)(j:Nat)(hij:i=(j:Int))(hK:Ke a K)(ho:o.op=.slice t x none (some y) none)(hx:dZ K x=some (.slice ad l.length cap))(hy:dZ K y=some (.int k i))
 (hj:j<=l.length) (hp:bF (.slice ad (l.take j).length cap) m.w):bp P o a m.w bF:=by
 subst hij
 have hc:=hE.mD.2.2
 have:=fT (P:=P) (w:=m.w) hT ad l.length cap 0 j none (some (.int k j)) (by simp only[Instr.sliceBounds,Sem.run_bind,Sem.run_pure,Result.andThen_ok,cy (Nat.le_trans hj hc)])
 unfold bp execOp
 simp only[ho,ak,Option.map_none,hK.ev hx,hK.ev hy,Sem.run_bind,this,Result.andThen_ok,Sem.run_pure,dX,Nat.sub_zero]
 rw[aG,Nat.min_eq_left hj]at hp;exact hp
theorem Cy{zv:Value}{bytes:Nat}{ad:Option Addr}{cap:Nat}{l:List α}{k k':IntKind}{i i':Int}(hT:cj P t e zv sz bytes)(hE:cz R m sz ad cap l)(j j':Nat)(hij:i=(j:Int))(hij':i'=(j':Int))(hK:Ke a K)(ho:o.op=.slice t x (some y) (some z) none)(hx:dZ K x=some (.slice ad l.length cap))(hy:dZ K y=some (.int k i))(hz:dZ K z=some (.int k' i'))
 (hj:j<=j'/\j'<=l.length) (hp:bF (.slice (cm ad cap j sz) ((l.take j').drop j).length (cap-j)) m.w):bp P o a m.w bF:=by
 subst hij hij'
 have hc:=hE.mD.2.2
 have:=fT (P:=P) (w:=m.w) hT ad l.length cap j j' (some (.int k j)) (some (.int k' j')) (by simp only[Instr.sliceBounds,Sem.run_bind,Sem.run_pure,Result.andThen_ok,cy (Nat.le_trans hj.2 hc),cy hj.1])
 unfold bp execOp
 simp only[ho,ak,Option.map_none,hK.ev hx,hK.ev hy,hK.ev hz,Sem.run_bind,this,Result.andThen_ok,Sem.run_pure]
 rw[aZ,aG,Nat.min_eq_left hj.2]at hp;exact hp
end
section
variable {P:Program}{o:Oper}{a:Act}{K:Kt}{ds:List Deferred}{B:List Nat}{m0 m:Mem}{L:List bB}{bF:Value->World->Prop}{x y:Operand}{t t' e:TypeId}{w:World}{ρ:Operand->Value}
theorem sv{ad:Option Addr}{n c:Nat}(ho:o.op=.binOp .eql t x y t')(hx:ρ x=.slice ad n c)(hy:ρ y=.slice none 0 0)(hu:P.underlying t=some (.slice e)):(execOp ρ o).run P w=.ok (.value (.bool ad.isNone)) w:=by
 have h:=Lib.run_eql_slice_nil (P:=P) w t e ad n c 0 0 hu;unfold execOp;simp only[ho,hx,hy,eqGuard,Sem.run_bind,Bool.not_true,aO,if_false,Sem.run_pure,Result.andThen_ok,h]
theorem sx{ad:Option Addr}{n c:Nat}(ho:o.op=.binOp .neq t x y t')(hx:ρ x=.slice ad n c)(hy:ρ y=.slice none 0 0)(hu:P.underlying t=some (.slice e)):(execOp ρ o).run P w=.ok (.value (.bool (!ad.isNone))) w:=by
 have h:=run_neq_slice_nil_any (P:=P) w t e ad n c 0 0 hu;unfold execOp;simp only[ho,hx,hy,eqGuard,Sem.run_bind,Bool.not_true,aO,if_false,Sem.run_pure,Result.andThen_ok,h]
theorem cz.qN{α:Type}{R:Mem->α->List Value->Prop}{sz cap:Nat}{l:List α}(h:cz R m sz none cap l):l=[]:=by
 obtain⟨css,h1,h2,_⟩:=h;have:=h1.2.2.2.1 rfl;exact bh (by have:=h1.2.1;omega)
theorem cz.uL{α:Type}{R:Mem->α->List Value->Prop}{ad:Option Addr}{sz cap:Nat}{l:List α}(h:cz R m sz ad cap l)(hn:ad.isNone=true):l=[]:=by
 cases ad with
 |none=>exact h.qN
 |some _=>cases hn
theorem CF{css:List (List Value)}:∀{l:List UInt8},css.length=l.length->(∀(i:Nat) (x:UInt8) (cs:List Value),l[i]?=some x->css[i]?=some cs->cs.length=1/\oL m x cs)->css.flatten=l.map U8:=by
 induction css with
 |nil=>intro l h _;cases l<;>simp_all
 |cons c css ih=>
  intro l h hh
  cases l with
  |nil=>simp at h
  |cons x l=>
   have h0:=(hh 0 x c rfl rfl).2
   unfold oL at h0
   subst h0
   rw[List.flatten_cons,aD,ih (by simpa using h) (fun i x cs hx hc=>hh (i+1) x cs (by simpa using hx) (by simpa using hc))]
   rfl
theorem cz.LF{ad:Option Addr}{cap:Nat}{l:List UInt8}(h:cz oL m 1 ad cap l):Sl m 1 ad l.length cap (l.map U8):=by
 obtain⟨css,h1,h2,h3⟩:=h;rw[CF h2 h3]at h1;exact h1
theorem Fo{ad:Option Addr}{cap:Nat}{bs:List UInt8}(ho:o.op=.convert t t' x)(hx:ρ x=.slice ad bs.length cap)(hs:P.underlying t=some (.slice e))(he:P.underlying e=some (.int .u8))(hd:P.underlying t'=some .string)(hE:cz oL m 1 ad cap bs):
 (execOp ρ o).run P m.w=.ok (.value (.string ⟨bs.toArray⟩)) m.w:=by
 have h:(convert t t' (.slice ad bs.length cap)).run P m.w=.ok (.string ⟨bs.toArray⟩) m.w:=by
  rw[run_convert_bytes_string m.w t t' e ad bs.length cap hs he hd]
  cases ad with
  |none=>
   have:bs=[]:=hE.qN
   subst this
   simp[Conv.bytesToString];rfl
  |some ad=>
   have hsl:=hE.LF
   have hls:(loadCells ad bs.length).run P m.w=.ok ((bs.map fun c=>(c.toNat:Int)).map (Value.int .u8)).toArray m.w:=by
    have:=run_loadCells_list (P:=P) m.w ad (bs.map U8) (fun j v hj=>by
     obtain⟨b,o,ha,_,hc⟩:=hsl.2.2.2.2 j v hj;cases ha;rw[Addr.add_mid];exact hc)
    rw[aL]at this;rw[this,List.map_map];rfl
   rw[run_bytesToString m.w ad bs.length cap _ hls,foldl_push_bytes]
   congr 2
   simp[ByteArray.empty,ByteArray.emptyWithCapacity,List.map_map,Function.comp_def]
   rfl
 unfold execOp
 simp only[ho,hx,Sem.run_bind,h,Result.andThen_ok,Sem.run_pure]
theorem KR(x y:List UInt8):((⟨x.toArray⟩:ByteArray).toList == (⟨y.toArray⟩:ByteArray).toList)=decide (x=y):=by
 rw[ByteArray.toList_eq,ByteArray.toList_eq,Bool.eq_iff_iff];simp
end
def je(f:Nat->UInt8):Array Value:=((List.range 32).map fun i=>Value.int .u8 ((f i).toNat:Int)).toArray
section
variable {P:Program}{o:Oper}{x y:Operand}{t t' e:TypeId}{w:World}{ρ:Operand->Value}{op:BinOp}
theorem mg{xs ys:Array Value}{v:Value}(ho:o.op=.binOp op t x y t')(hx:ρ x=.agg xs)(hy:ρ y=.agg ys)(hg:P.eqGuardType P.depth t=false)(h:(binOp op t (.agg xs) (.agg ys)).run P w=.ok v w):(execOp ρ o).run P w=.ok (.value v) w:=by
 have h2:(eqGuard op t x y (.agg xs) (.agg ys)).run P w=.ok () w:=by
  unfold eqGuard;cases op<;>simp[program,Sem.run,hg]
 unfold execOp;simp only[ho,hx,hy,Sem.run_bind,h2,Result.andThen_ok,h,Sem.run_pure]
theorem ny(d:Nat)(he:P.underlying e=some (.int .u8))(f g:Nat->UInt8):∀(is:List Nat),(∀i∈is,i<32)->(Op.eqItems (d+1) e 1 (je f) (je g) is).run P w=.ok (is.all fun i=>f i == g i) w
 |[],_=>by simp[Op.eqItems]
 |i::is,h=>by
  have hi:=h i (by simp);have hp:∀f:Nat->UInt8,(part e (je f) (i*1)).run P w=.ok (.int .u8 ((f i).toNat:Int)) w:=fun f=>by
   have hc:(je f)[i]?=some (.int .u8 ((f i).toNat:Int)):=by simp[je,hi]
   simp[part,fS he,pq,Nat.mul_one,hc]
  have ih:=ny d he f g is (fun j hj=>h j (by simp[hj]));have hb:(((f i).toNat:Int) == ((g i).toNat:Int))=(f i == g i):=by
   rw[Bool.eq_iff_iff];simp;exact⟨fun h=>UInt8.toNat_inj.1 (by omega),fun h=>by rw[h]⟩
  simp only[Op.eqItems,Sem.run_bind,hp,Result.andThen_ok,run_equalIn_int w d e .u8 .u8 _ _ he,hb,List.all_cons];cases f i == g i
  . simp
  . simp[ih]
theorem vF(hu:P.underlying t=some (.array 32 e))(he:P.underlying e=some (.int .u8))(hs:dw P e=some (false,1))(f g:Nat->UInt8):(binOp .eql t (.agg (je f)) (.agg (je g))).run P w=.ok (.bool (mX f g)) w:=by
 obtain⟨dd,i,hu',hi,hd,hsz⟩:=eX hs;have hc:P.cellsOf e=1:=by simp[Program.cellsOf,hi,hsz]
 have h:=run_equalIn_array (P:=P) w 9999 (je f) (je g) hu hi;rw[hc,ny 9998 he f g (List.range 32) (fun i hi=>by simpa using hi)]at h;rw[run_eql_struct,h];rfl
end
section
variable {P:Program}{o:Oper}{a:Act}{K:Kt}{ds:List Deferred}{B:List Nat}{m0 m:Mem}{L:List bB}{bF:Value->World->Prop}{x y z:Operand}{t kt et:TypeId}
theorem sy(_hK:Ke a K)(hS:St B m0 m L)(ho:o.op=.makeMap t none)
 (hp:∀m' b,Le m m'->St B m0 m' (.obj b (.map #[] 0)::L)->bF (.map (some b)) m'.w):bp P o a m.w bF:=by
 unfold bp execOp
 simp only[ho,Option.map_none,run_makeMap,Sem.run_bind,Sem.run_pure,Result.andThen_ok]
 have h:=hS.new (o:=.map #[] 0) rfl (.obj m.w.heap.size (.map #[] 0)) rfl (cR _ _)
 exact hp _ _ (St.new (St.refl (Ow.nil m)) (o:=.map #[] 0) rfl (.obj m.w.heap.size (.map #[] 0)) rfl (cR _ _)).le h
end
section
variable {P:Program}{o:Oper}{a:Act}{K:Kt}{ds:List Deferred}{B:List Nat}{m0 m:Mem}{L:List bB}{bF:Value->World->Prop}{x:Operand}{t e:TypeId}
theorem zS(w:World)(p:Addr)(n:Nat)(q:Addr):(w.freeze p n).cell? q=w.cell? q:=by
 unfold World.freeze;split
 . rfl
 unfold World.cell?;simp only[Array.getElem?_modify];by_cases h:p.block=q.block
 . rw[if_pos h]
   cases hq:w.heap[q.block]? with
   |none=>rfl
   |some ob=>cases ob<;>rfl
 . rw[if_neg h]
theorem x8(w:World)(p:Addr)(n k:Nat)(h:k≠p.block):(w.freeze p n).heap[k]?=w.heap[k]?:=by
 unfold World.freeze;split
 . rfl
 simp only[Array.getElem?_modify];rw[if_neg (fun e=>h e.symm)]
theorem zT(w:World)(p:Addr)(n:Nat):(w.freeze p n).heap.size=w.heap.size:=by
 unfold World.freeze;split
 . rfl
 . simp
end
end
section
open Go.RowKit
namespace D
def writer(ops:Array Oper)(t:Tmp):Option Nat:=(List.range ops.size).find? fun i=>(ops[i]?).bind (·.dst) == some t
inductive K8(ops:Array Oper)(i:Nat):Nat->Prop
 |at_ {j:Nat} {o:Oper} {e:Edge}:ops[j]?=some o->e∈o.after->Region.binds .any e=true->e.on=i->K8 ops i j
 |step {j:Nat} {o:Oper} {e:Edge}:ops[j]?=some o->e∈o.after->Region.binds .any e=true->K8 ops i e.on->K8 ops i j
def zq(i:Nat):List Oper->Nat->Nat->Nat
 |[],_,acc=>acc
 |o::os,j,acc=>cond (o.after.any fun e=>Region.binds .any e&&(Nat.beq e.on i||acc.testBit e.on)) (zq i os (j+1) (acc ||| 1 <<< j)) (zq i os (j+1) acc)
def jY(ops:Array Oper)(i j:Nat):Bool:=(zq i ops.toList 0 0).testBit j
theorem I3{α:Type}{xs:Array α}{p:α->Bool}(h:xs.any p=true):∃e,e∈xs/\p e=true:=by
 rw[<- Array.any_toList,List.any_eq_true]at h;obtain⟨e,he,hp⟩:=h;exact⟨e,by simpa using he,hp⟩
theorem mI{ops:Array Oper}{i:Nat}:∀(os:List Oper) (j acc:Nat),os=ops.toList.drop j->(∀k,acc.testBit k=true->K8 ops i k)->∀k,(zq i os j acc).testBit k=true->K8 ops i k
 |[],_,_,_,h,k,hk=>h k hk
 |o::os,j,acc,hd,h,k,hk=>by
  have ho:ops[j]?=some o:=by
   have h1:(o::os)[0]?=(ops.toList.drop j)[0]?:=by rw[hd]
   rw[List.getElem?_drop]at h1;simpa using h1.symm
  have hd':os=ops.toList.drop (j+1):=by rw[<- List.drop_drop,<- hd];rfl
  unfold zq at hk;cases hc:(o.after.any fun e=>Region.binds .any e&&(Nat.beq e.on i||acc.testBit e.on))with
  |false=>rw[hc]at hk;exact mI os (j+1) acc hd' h k hk
  |true=>
   rw[hc]at hk
   refine mI os (j+1) _ hd' (fun q hq=>?_) k hk
   rw[Nat.testBit_or,Bool.or_eq_true]at hq
   rcases hq with hq|hq
   . exact h q hq
   . have:q=j:=by
      simp only[Nat.testBit_shiftLeft,al,bg,ge_iff_le,Nat.testBit_one_eq_true_iff_self_eq_zero]at hq;omega
     subst this
     obtain⟨e,he,hee⟩:=I3 hc
     simp only[al,Bool.or_eq_true,Nat.beq_eq]at hee
     rcases hee.2 with h2|h2
     . exact .at_ ho he hee.1 h2
     . exact .step ho he hee.1 (h _ h2)
theorem nP{ops:Array Oper}{i j:Nat}(h:jY ops i j=true):K8 ops i j:=mI ops.toList 0 0 rfl (fun k hk=>by simp at hk) j h
def Iz(ops:Array Oper)(n i:Nat):Bool:=
 match ops[i]? with
 |none=>true
 |some o=>
  (match o.dst with|some d=>writer ops d == some i&&decide (d<n)|none=>true)&&
  (o.after.all fun e=>!Region.binds .any e||decide (e.on<i))&&
  ((o.looksAt ops).all fun t=>match writer ops t with|none=>true|some j=>jY ops j i||jY ops i j||j == i)
def tidy(ops:Array Oper)(n:Nat):Bool:=(List.range ops.size).all (Iz ops n)
section
variable {ops:Array Oper}{n:Nat}
theorem sE{t:Tmp}{j:Nat}(h:writer ops t=some j):∃o,ops[j]?=some o/\o.dst=some t:=by
 have:=List.find?_some h;simp only[beq_iff_eq]at this
 cases ho:ops[j]? with
 |none=>simp[ho]at this
 |some o=>exact⟨o,rfl,by simpa[ho]using this⟩
def gH(l:Array Bool)(i:Nat):Prop:=l.getD i false=true
theorem lR{l:Array Bool}{i:Nat}(hi:i<l.size):l.getD i true=false↔¬ gH l i:=by
 unfold gH;simp[hi]
theorem j9(n i:Nat):¬ gH (Array.replicate n false) i:=by
 unfold gH;by_cases h:i<n<;>simp[h]
def left(ops:Array Oper)(l:Array Bool):Nat:=(List.range ops.size).countP fun i=>l.getD i true == false
theorem eT{l:Array Bool}{i:Nat}(hi:i<l.size)(k:Nat):gH (l.setIfInBounds i true) k↔k=i\/gH l k:=by
 unfold gH;by_cases h:i=k
 . subst h;simp[hi]
 . rw[Go.getD_set_ne false h];simp[Ne.symm h]
theorem wz{p q:Nat->Bool}:∀(L:List Nat) (i:Nat),i∈L->(∀x,q x=true->p x=true)->p i=true->q i=false->L.countP q<L.countP p
 |[],i,h,_,_,_=>by cases h
 |x::L,i,h,hpq,hp,hq=>by
  by_cases hx:x=i
  . subst hx;rw[List.countP_cons_of_pos hp,List.countP_cons_of_neg (by simp[hq])];exact Nat.lt_succ_of_le (List.countP_mono_left fun y _ hy=>hpq y hy)
  . have hm:i∈L:=by cases h with|head=>exact absurd rfl hx|tail _ h=>exact h
    have:=wz L i hm hpq hp hq;by_cases hqx:q x=true
    . rw[List.countP_cons_of_pos hqx,List.countP_cons_of_pos (hpq x hqx)];omega
    . rw[List.countP_cons_of_neg hqx];by_cases hpx:p x=true
      . rw[List.countP_cons_of_pos hpx];omega
      . rw[List.countP_cons_of_neg hpx];omega
theorem qF{l:Array Bool}{i:Nat}(hl:l.size=ops.size)(hi:i<ops.size)(h:¬ gH l i):left ops (l.setIfInBounds i true)<left ops l:=by
 refine wz _ i (List.mem_range.2 hi) (fun x hx=>?_) ?_ ?_
 . by_cases e:i=x
   . subst e;simp[hl,hi]at hx
   . rw[Go.getD_set_ne true e]at hx;exact hx
 . simp only[beq_iff_eq];exact(lR (by omega)).2 h
 . simp[hl,hi]
theorem eK{a:Act}{d:Tmp}{v:Value}(h:d<a.tmps.size):(a.put (some d) v).eval (.tmp d)=v:=by
 simp[Act.eval,Act.put,h]
theorem jV(h:tidy ops n=true){i:Nat}{o:Oper}(ho:ops[i]?=some o):
 (∀d,o.dst=some d->writer ops d=some i/\d<n)/\(∀e∈o.after,Region.binds .any e=true->e.on<i)/\
 (∀t∈o.looksAt ops,∀j,writer ops t=some j->jY ops j i=true\/jY ops i j=true\/j=i):=by
 have hi:i<ops.size:=(Array.getElem?_eq_some_iff.1 ho).1
 have h1:=aF.1 h i (List.mem_range.2 hi)
 simp only[Iz,ho,al]at h1
 obtain⟨⟨h1,h2⟩,h3⟩:=h1
 refine⟨fun d hd=>?_,fun e he hb=>?_,fun t ht j hj=>?_⟩
 . simp only[hd,al,beq_iff_eq,bg]at h1;exact h1
 . have:=Array.all_eq_true_iff_forall_mem.1 h2 e he
   simpa[hb]using this
 . have:=aF.1 h3 t ht
   simp only[hj,Bool.or_eq_true,beq_iff_eq]at this
   rcases this with(h|h)|h
   . exact .inl h
   . exact .inr (.inl h)
   . exact .inr (.inr h)
theorem tU(ht:tidy ops n=true){l:Array Bool}(hl:l.size=ops.size)(hr:Region.ready .any ops l=[]):∀i,i<ops.size->gH l i:=by
 intro i
 induction i using Nat.strongRecOn with
 |_ i ih=>
  intro hi
  refine ba fun hn=>?_
  have ho:ops[i]?=some ops[i]:=by simp[hi]
  have:i∈Region.ready .any ops l:=Go.mem_ready.2 ⟨(lR (by omega)).2 hn,ops[i],ho,fun e he hb=>ih e.on ((jV ht ho).2.1 e he hb) (by have:=(jV ht ho).2.1 e he hb;omega)⟩
  rw[hr]at this;cases this
theorem CQ{l:Array Bool}(hc:∀j o,ops[j]?=some o->gH l j->∀e∈o.after,Region.binds .any e=true->gH l e.on){i j:Nat}(h:K8 ops i j):(∀o,ops[j]?=some o->∀e∈o.after,Region.binds .any e=true->gH l e.on)->gH l i:=by
 induction h with
 |at_ ho he hb h=>intro hall;exact h▸hall _ ho _ he hb
 |step ho he hb _ ih=>intro hall;exact ih fun o' ho'=>hc _ o' ho' (hall _ ho _ he hb)
theorem iR{l:Array Bool}(hc:∀j o,ops[j]?=some o->gH l j->∀e∈o.after,Region.binds .any e=true->gH l e.on)(i j:Nat)(o:Oper)(ho:ops[j]?=some o)
 (hall:∀e∈o.after,Region.binds .any e=true->gH l e.on) (h:jY ops i j=true):gH l i:=
 CQ hc (nP h) fun o' ho'=>by rw[ho]at ho';cases ho';exact hall
end
abbrev Rs:=List (Value->World->Prop)
def at_(rs:Rs)(i:Nat):Value->World->Prop:=if i<rs.length then rs.getD (rs.length-1-i) (fun _ _=>True)else fun _ _=>True
end D
end
end Go.Proofs.YtjfkdglgecgjfaaGreat
