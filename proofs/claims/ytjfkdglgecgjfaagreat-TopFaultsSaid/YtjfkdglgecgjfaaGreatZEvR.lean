/- Part of the proof. -/
import Derived.Test.YtjfkdglgecgjfaaGreatZEv
namespace Go.Proofs.YtjfkdglgecgjfaaGreat
section
open Go.RowKit G
namespace E
variable {S:Nat->Type}
def B0(sz:Nat->Nat):Co->Nat
 |.st i=>sz i
 |.a8 n=>max n 1
 |.ai n _=>max n 1
 |_=>1
def RC(R:(i:Nat)->Mem->S i->List Value->Prop)(sz:Nat->Nat):(c:Co)->Mem->T S c->List Value->Prop
 |.int k=>isNum k
 |.u8=>rI
 |.bo=>aa2
 |.str=>isStr
 |.sl c=>LQ (RC R sz c) (B0 sz c)
 |.st i=>R i
 |.a8 n=>fun _ (f:Nat->UInt8) cs=>cs=(List.range n).map (fun i=>.int .u8 ((f i).toNat:Int))/\0<n
 |.ai n k=>fun _ (f:Nat->Int) cs=>cs=(List.range n).map (fun i=>.int k (f i))/\0<n
 |.mp _ _=>fun _ _ _=>False
def Jl(R:(i:Nat)->Mem->S i->List Value->Prop)(sz:Nat->Nat)(m:Mem):(cs:List Co)->HL S cs->List Value->Prop
 |[],_,vs=>vs=[]
 |c::cs,h,vs=>∃v1 v2,vs=v1++v2/\RC R sz c m h.1 v1/\Jl R sz m cs h.2 v2
def Hf:Co->Bool
 |.st _=>false
 |_=>true
structure RG where
 ps:List Nat
 fC:Code
 body:Code
 n:Nat
structure ep(tb:Tb S) where
 R:(i:Nat)->Mem->S i->List Value->Prop
 sz:Nat->Nat
 rep:∀i,oY (R i) (sz i)
 spec:∀i m x cs,R i m x cs↔Jl R sz m (tb i).fs ((tb i).to x) cs
 X5:∀i h,(tb i).to ((tb i).of h)=h
 flat:∀i,(tb i).fs.all Hf=true
 rg:Nat->Option RG
 B:Mem->Prop
 Bm:∀{m m':Mem},B m->Le m m'->B m'
variable {tb:Tb S}(K:ep tb)
abbrev RK(c:Co):Mem->T S c->List Value->Prop:=RC K.R K.sz c
abbrev zK(c:Co):Nat:=B0 K.sz c
theorem cF:∀c,oY (RK K c) (zK K c)
 |.int k=>OB k
 |.u8=>Mq
 |.bo=>TJ
 |.str=>OD
 |.sl c=>Mp (cF c)
 |.st i=>K.rep i
 |.a8 n=>⟨fun h _=>h,fun h=>by rw[h.1];simp[B0];have:=h.2;omega,fun h u hu=>by rw[h.1]at hu;simp at hu;obtain⟨i,_,rfl⟩:=hu;rfl,by simp[B0];omega⟩
 |.ai n k=>⟨fun h _=>h,fun h=>by rw[h.1];simp[B0];have:=h.2;omega,fun h u hu=>by rw[h.1]at hu;simp at hu;obtain⟨i,_,rfl⟩:=hu;rfl,by simp[B0];omega⟩
 |.mp _ _=>⟨fun h _=>h.elim,fun h=>h.elim,fun h=>h.elim,by simp[B0]⟩
def dv:(c:Co)->Mem->T S c->Value->Prop
 |.st i=>fun m x v=>∃cs,v=.agg cs.toArray/\K.R i m x cs
 |c=>fun m x v=>RK K c m x [v]
theorem dv.mono{m m':Mem}(hm:Le m m'):∀{c:Co} {x:T S c} {v:Value},dv K c m x v->dv K c m' x v
 |.st i,_,_,h=>by obtain⟨cs,h1,h2⟩:=h;exact⟨cs,h1,(K.rep i).mono h2 hm⟩
 |.int k,_,_,h=>(cF K (.int k)).mono h hm
 |.u8,_,_,h=>(cF K .u8).mono h hm
 |.bo,_,_,h=>(cF K .bo).mono h hm
 |.str,_,_,h=>(cF K .str).mono h hm
 |.sl c,_,_,h=>(cF K (.sl c)).mono h hm
 |.a8 n,_,_,h=>(cF K (.a8 n)).mono h hm
 |.ai n k,_,_,h=>(cF K (.ai n k)).mono h hm
 |.mp _ _,_,_,h=>h.elim
structure Gh where
 g:Option Nat
 ad:Option Addr
 cap:Nat
 n:Nat
 sk:List (Value×Nat)
variable (S) in
structure GG where
 bk:Nat->Option Gh
 vv:Nat->Option Value
 oo:Nat->Option (AO S×bR)
mutual
def bM(g:GG S)(m:Mem):CV S->List Value->Prop
 |.int k x,cs=>cs=[.int k x]
 |.u8 x,cs=>cs=[.int .u8 (x.toNat:Int)]
 |.bo b _ _ _,cs=>cs=[.bool b]
 |.tt b,cs=>cs=[.bool b]
 |.str l,cs=>cs=[.string (Proofs.YtjfkdglgecgjfaaGreat.str l)]
 |.sl c l,cs=>LQ (RK K c) (zK K c) m l cs
 |.Xi c l,cs=>∃a,cs=[.slice a l.length l.length]/\dM (RK K c) m (zK K c) a l.length l
 |.rw o c l,cs=>∃(gh:Gh) (l0:List (T S c)) (ad:Option Addr),g.bk o=some gh/\cs=[.slice ad l.length (gh.cap-l0.length)]/\dM (RK K c) m (zK K c) ad (gh.cap-l0.length) l/\dM (RK K c) m (zK K c) (fP gh.g) gh.cap (l0++l)/\gh.n=(l0++l).length/\(l0.length<gh.cap->ad=dG (fP gh.g) gh.cap l0.length (zK K c))
 |.aw o,cs=>∃gh,g.bk o=some gh/\cs=[.slice gh.ad gh.n gh.cap]
 |.fg,cs=>cs=[.slice none 0 0]
 |.a8 n f,cs=>cs=(List.range n).map (fun i=>.int .u8 ((f i).toNat:Int))
 |.ai n k f,cs=>cs=(List.range n).map fun i=>.int k (f i)
 |.ptr o off,cs=>∃gh b,g.bk o=some gh/\gh.g=some b/\cs=[.pointer (some ⟨b,off,none⟩)]
 |.kG,cs=>cs=[.pointer none]
 |.el c x off,cs=>∃b p ecs,cs=[.pointer (some ⟨b,p+off,none⟩)]/\RK K c m x ecs/\At m b p ecs
 |.KG o v c x j off,cs=>∃gh b p e f l en,g.bk o=some gh/\gh.ad.map (·.add (j.toNat*zK K c))=some ⟨b,p,none⟩/\cs=[.pointer (some ⟨b,p+off,none⟩)]/\g.oo v=some (.arr e c f l,en)/\idx l j=some x
 |.Sd o off n i,cs=>∃gh b,g.bk o=some gh/\gh.g=some b/\cs=[.pointer (some ⟨b,off+i.toNat,none⟩)]/\0<=i/\i<n
 |.px o off n i j,cs=>∃gh b,g.bk o=some gh/\gh.g=some b/\cs=[.slice (some ⟨b,off+i.toNat,none⟩) (j-i).toNat (n-i.toNat)]/\0<=i/\i<=j/\j<=(n:Int)
 |.fn f xs ys,cs=>∃v1 v2,cs=[.func f v1.toArray v2.toArray]/\iK g m xs v1/\iK g m ys v2
 |.ag _,_=>False
 |.fB,cs=>cs=[.nilFunc]
 |.Bv,cs=>cs=[.map none]
 |.xV,cs=>cs=[.nilIface]
 |.yl o,cs=>∃gh l,g.bk o=some gh/\gh.g=some l/\cs=[.func (.yield l) #[] #[]]
 |.mp o,cs=>∃gh b,g.bk o=some gh/\gh.g=some b/\cs=[.map (some b)]
 |.Xo _ q,cs=>∃gh,g.bk q=some gh/\cs=[.int .i64 (gh.n:Int)]
 |.Wq q,cs=>∃gh r,g.bk q=some gh/\gh.g=some r/\cs=[.pointer (some ⟨r,0,none⟩)]
 |.na e n,cs=>∃b,cs=[.bool b]/\(b≠n->e=true)
 |.pt o c off n,cs=>∃gh,g.bk o=some gh/\cs=[.slice (dG gh.ad gh.cap off.toNat (zK K c)) n.toNat (gh.cap-off.toNat)]/\0<=off/\0<=n/\off+n<=(gh.n:Int)
 |.rz o _ n,cs=>∃gh b,g.bk o=some gh/\gh.g=some b/\cs=[.slice (fP gh.g) n.toNat gh.cap]/\gh.n=0/\gh.cap<=maxLen
def iK(g:GG S)(m:Mem):List (CV S)->List Value->Prop
 |[],vs=>vs=[]
 |x::xs,vs=>∃v vs',vs=v::vs'/\(bM g m x [v]\/Q0 g m x v)/\iK g m xs vs'
def Q0(g:GG S)(m:Mem):CV S->Value->Prop
 |.ag ys,v=>∃cs,v=.agg cs.toArray/\Bp g m ys cs
 |_,_=>False
def Bp(g:GG S)(m:Mem):List (CV S)->List Value->Prop
 |[],cs=>cs=[]
 |v::vs,cs=>∃c1 c2,cs=c1++c2/\bM g m v c1/\Bp g m vs c2
end
def cJ(g:GG S)(m:Mem):List (CV S)->List Value->Prop
 |[],cs=>cs=[]
 |v::vs,cs=>∃c1 c2,cs=c1++c2/\bM K g m v c1/\cJ g m vs c2
mutual
def bP(g:GG S)(m:Mem):AV S->Value->Prop
 |.one v,x=>bM K g m v [x]
 |.agg vs,x=>∃cs,x=.agg cs.toArray/\cJ K g m vs cs
 |.dD vs,x=>∃l,x=.tuple l.toArray/\db g m vs l
def db(g:GG S)(m:Mem):List (AV S)->List Value->Prop
 |[],l=>l=[]
 |v::vs,l=>∃x r,l=x::r/\bP g m v x/\db g m vs r
end
def exC:QY->Code
 |.normal=>.skip
 |.ret=>.ret
 |.exit n=>.exit n
def zE:LS->LoopState
 |.ready=>.ready
 |.busy=>.busy
 |.done _=>.done
def ER:LS->Option Code
 |.done e=>some (exC e)
 |_=>none
def rwV(m:Mem)(c:Co)(gh:Gh)(l:List (T S c))(v:Value):Prop:=∃(l0:List (T S c)) (ad:Option Addr),v=.slice ad l.length (gh.cap-l0.length)/\dM (RK K c) m (zK K c) ad (gh.cap-l0.length) l/\dM (RK K c) m (zK K c) (fP gh.g) gh.cap (l0++l)/\gh.n=(l0++l).length/\(l0.length<gh.cap->ad=dG (fP gh.g) gh.cap l0.length (zK K c))
theorem rwV.mono{m m':Mem}(hm:Le m m'){c:Co}{gh:Gh}{l:List (T S c)}{v:Value}(h:rwV K m c gh l v):rwV K m' c gh l v:=by
 obtain⟨l0,ad,h1,h2,h3,h4⟩:=h;exact⟨l0,ad,h1,h2.mono (cF K c) hm,h3.mono (cF K c) hm,h4⟩
def Q4(m:Mem)(c:Co)(p:List (T S c)×Option Gh)(v:Value):Prop:=match p.2 with
 |some gh=>rwV K m c gh p.1 v
 |none=>True
theorem Q4.mono{m m':Mem}(hm:Le m m'){c:Co}{p:List (T S c)×Option Gh}{v:Value}(h:Q4 K m c p v):Q4 K m' c p v:=by
 unfold Q4 at*
 split at h
 . rename_i gh hg;exact rwV.mono K hm h
 . trivial
def nC{κ ν:Type}(et:TypeId)(sz:Nat)(p:κ×(ν×Option Gh)):Option bR:=p.2.2.map fun gh=>bR.row gh.g et (gh.cap*sz) (gh.n*sz)
def Jq{ν:Type}(m:Mem)(kc:Co)(es:Array MapEntry)(ll:List (T S kc×(ν×Option Gh))):Option (T S kc)->Prop
 |none=>∀(i:Nat) (p:T S kc×(ν×Option Gh)),ll[i]?=some p->p.2.2≠none
 |some x=>∀(i:Nat) (p:T S kc×(ν×Option Gh)) (e:MapEntry),ll[i]?=some p->es.toList[i]?=some e->p.2.2=none->dv K kc m x e.key
def MJ(g:GG S)(m:Mem)(kc:Co)(es:Array MapEntry):Option (T S kc×Nat)->Prop
 |none=>True
 |some (x,q)=>∃(j:Nat) (e:MapEntry) (gh:Gh),es.toList[j]?=some e/\dv K kc m x e.key/\g.bk q=some gh/\gh.n=e.born
def itR(m:Mem)(kc:Co)(sk:List (Value×Nat))(seen:Array Nat):Option (Option (T S kc))->Prop
 |none=>seen= #[]
 |some none=>True
 |some (some x)=>∃(j:Nat) (p:Value×Nat),sk[j]?=some p/\seen.back?=some p.2/\dv K kc m x p.1
def iY(g:GG S)(m:Mem)(k:Nat):AO S->bR->Prop
 |.box T cs,e=>∃gh b vs,g.bk k=some gh/\gh.g=some b/\e=.box b vs.toArray T/\cJ K g m cs vs
 |.row T c,e=>∃gh,g.bk k=some gh/\e=.row gh.g T (gh.cap*zK K c) (gh.n*zK K c)
 |.arr T c full l,e=>∃gh cs,g.bk k=some gh/\l.length=gh.n/\e=.arr gh.g cs T/\fZ (RK K c) m (zK K c) gh.g cs gh.ad gh.cap l/\(full=true->gh.ad=fP gh.g/\vH (RK K c) m (zK K c) gh.g cs gh.cap l)
 |.loop r st tm,e=>∃gh l R rg tmps,g.bk k=some gh/\gh.g=some l/\K.rg r=some rg/\e=.obj l (.loop (R (zE st) (ER st)))/\E1 R rg.ps.toArray tmps rg.fC rg.body/\tmps.size=rg.n/\∀t bT v,look t tm=some (bT,v)->bP K g m v (tmps.getD t undef)
 |.map _ kc vc l hole,e=>∃gh b es clock,g.bk k=some gh/\gh.g=some b/\e=.obj b (.map es clock)/\jZ (dv K kc m) (fun y v=>RK K vc m y [v]) es clock l/\MJ K g m kc es hole
 |.qE _ et kc c l hole,e=>∃gh b es clock ll,g.bk k=some gh/\gh.g=some b/\e=.cat (.obj b (.map es clock)::ll.filterMap (nC et (zK K c)))/\jZ (dv K kc m) (Q4 K m c) es clock ll/\ll.map (fun p=>(p.1,p.2.1))=l/\Jq K m kc es ll hole
 |.EP _ kc l,e=>∃gh b es clock,g.bk k=some gh/\gh.g=some b/\e=.obj b (.map es clock)/\jZ (dv K kc m) (fun y v=>Y6 y=true/\bM K g m y [v]) es clock l
 |.lD _ kc vc l hole q,e=>∃gh b es gq,g.bk k=some gh/\gh.g=some b/\g.bk q=some gq/\gq.cap=b/\e=.obj b (.map es gq.n)/\jZ (dv K kc m) (fun y v=>RK K vc m y [v]) es gq.n l/\MJ K g m kc es hole/\es.toList.map (fun e=>(e.key,e.born))=gq.sk
 |.sD kc o st,e=>∃gh go r seen,g.bk k=some gh/\gh.g=some r/\g.bk o=some go/\go.g=some gh.cap/\e=.obj r (.mapIter (some gh.cap) gh.n seen gh.n)/\itR K m kc gh.sk seen st
def eW(g:GG S)(m:Mem):List (Nat×Nat×AO S)->List bR->Prop
 |[],L=>L=[]
 |x::l,L=>∃e L',L=e::L'/\g.oo x.2.1=some (x.2.2,e)/\iY K g m x.1 x.2.2 e/\eW g m l L'
def B6(g:GG S)(m:Mem):List (Nat×AO S)->List bR->Prop
 |[],L=>L=[]
 |x::l,L=>∃e L',L=e::L'/\iY K g m x.1 x.2 e/\B6 g m l L'
structure GE(g g':GG S):Prop where
 bk:∀i x,g.bk i=some x->g'.bk i=some x
 vv:∀i x,g.vv i=some x->g'.vv i=some x
 oo:∀i x,g.oo i=some x->g'.oo i=some x
theorem GE.refl(g:GG S):GE g g:=⟨fun _ _ h=>h,fun _ _ h=>h,fun _ _ h=>h⟩
theorem GE.trans{a b c:GG S}(h:GE a b)(k:GE b c):GE a c:=⟨fun i x hx=>k.bk i x (h.bk i x hx),fun i x hx=>k.vv i x (h.vv i x hx),fun i x hx=>k.oo i x (h.oo i x hx)⟩
section
variable {K}{g g':GG S}{m m':Mem}
mutual
theorem bM.mono(hg:GE g g')(hm:Le m m'):∀{v:CV S} {cs:List Value},bM K g m v cs->bM K g' m' v cs
 |.na _ _,_,h| .int _ _,_,h| .u8 _,_,h| .bo _ _ _ _,_,h| .tt _,_,h| .str _,_,h| .fg,_,h| .a8 _ _,_,h| .ai _ _ _,_,h| .kG,_,h| .fB,_,h| .Bv,_,h| .xV,_,h=>by
  simp only[bM]at h ⊢; exact h
 |.sl c l,_,h=>by
  simp only[bM]at h ⊢; exact(Mp (cF K c)).mono h hm
 |.Xi c l,_,h=>by
  simp only[bM]at h ⊢; obtain⟨a,h1,h2⟩:=h;exact⟨a,h1,h2.mono (cF K c) hm⟩
 |.rw o c l,_,h=>by
  simp only[bM]at h ⊢; obtain⟨gh,l0,ad,h1,h2,h3,h4,h5⟩:=h;exact⟨gh,l0,ad,hg.bk _ _ h1,h2,h3.mono (cF K c) hm,h4.mono (cF K c) hm,h5⟩
 |.aw o,_,h=>by
  simp only[bM]at h ⊢; obtain⟨gh,h1,h2⟩:=h;exact⟨gh,hg.bk _ _ h1,h2⟩
 |.ptr o off,_,h=>by
  simp only[bM]at h ⊢; obtain⟨gh,b,h1,h2⟩:=h;exact⟨gh,b,hg.bk _ _ h1,h2⟩
 |.el c x off,_,h=>by
  simp only[bM]at h ⊢; obtain⟨b,p,ecs,h1,h2,h3⟩:=h;exact⟨b,p,ecs,h1,(cF K c).mono h2 hm,h3.mono hm⟩
 |.KG o v c x j off,_,h=>by
  simp only[bM]at h ⊢; obtain⟨gh,b,p,e,f,l,en,h1,h2,h3,h4,h5⟩:=h;exact⟨gh,b,p,e,f,l,en,hg.bk _ _ h1,h2,h3,hg.oo _ _ h4,h5⟩
 |.Sd o off n i,_,h=>by
  simp only[bM]at h ⊢; obtain⟨gh,b,h1,h2⟩:=h;exact⟨gh,b,hg.bk _ _ h1,h2⟩
 |.pt o c off n,_,h=>by
  simp only[bM]at h ⊢; obtain⟨gh,h1,h2⟩:=h;exact⟨gh,hg.bk _ _ h1,h2⟩
 |.px o off n i j,_,h=>by
  simp only[bM]at h ⊢; obtain⟨gh,b,h1,h2⟩:=h;exact⟨gh,b,hg.bk _ _ h1,h2⟩
 |.rz o _ _,_,h=>by
  simp only[bM]at h ⊢; obtain⟨gh,b,h1,h2⟩:=h;exact⟨gh,b,hg.bk _ _ h1,h2⟩
 |.yl o,_,h=>by
  simp only[bM]at h ⊢; obtain⟨gh,b,h1,h2⟩:=h;exact⟨gh,b,hg.bk _ _ h1,h2⟩
 |.mp o,_,h=>by
  simp only[bM]at h ⊢; obtain⟨gh,b,h1,h2⟩:=h;exact⟨gh,b,hg.bk _ _ h1,h2⟩
 |.Xo o q,_,h=>by
  simp only[bM]at h ⊢; obtain⟨gh,h1,h2⟩:=h;exact⟨gh,hg.bk _ _ h1,h2⟩
 |.Wq q,_,h=>by
  simp only[bM]at h ⊢; obtain⟨gh,b,h1,h2⟩:=h;exact⟨gh,b,hg.bk _ _ h1,h2⟩
 |.fn f xs ys,_,h=>by
  simp only[bM]at h ⊢; obtain⟨v1,v2,h1,h2,h3⟩:=h;exact⟨v1,v2,h1,iK.mono hg hm h2,iK.mono hg hm h3⟩
 |.ag _,_,h=>by simp only[bM]at h
theorem iK.mono(hg:GE g g')(hm:Le m m'):∀{vs:List (CV S)} {cs:List Value},iK K g m vs cs->iK K g' m' vs cs
 |[],_,h=>by simp only[iK]at h ⊢; exact h
 |x::xs,_,h=>by
  simp only[iK]at h ⊢; obtain⟨v,vs',h1,h2,h3⟩:=h;exact⟨v,vs',h1,h2.imp (bM.mono hg hm) (Q0.mono hg hm),iK.mono hg hm h3⟩
theorem Q0.mono(hg:GE g g')(hm:Le m m'):∀{v:CV S} {u:Value},Q0 K g m v u->Q0 K g' m' v u
 |.ag ys,_,h=>by
  simp only[Q0]at h ⊢; obtain⟨cs,h1,h2⟩:=h;exact⟨cs,h1,Bp.mono hg hm h2⟩
 |.na _ _,_,h| .int _ _,_,h| .u8 _,_,h| .bo _ _ _ _,_,h| .tt _,_,h| .str _,_,h| .fg,_,h| .a8 _ _,_,h| .ai _ _ _,_,h| .kG,_,h| .fB,_,h| .Bv,_,h| .xV,_,h| .sl _ _,_,h| .Xi _ _,_,h| .rw _ _ _,_,h| .aw _,_,h| .ptr _ _,_,h| .el _ _ _,_,h| .KG _ _ _ _ _ _,_,h| .Sd _ _ _ _,_,h| .pt _ _ _ _,_,h| .px _ _ _ _ _,_,h| .rz _ _ _,_,h| .yl _,_,h| .mp _,_,h| .Xo _ _,_,h| .Wq _,_,h| .fn _ _ _,_,h=>by simp only[Q0]at h
theorem Bp.mono(hg:GE g g')(hm:Le m m'):∀{vs:List (CV S)} {cs:List Value},Bp K g m vs cs->Bp K g' m' vs cs
 |[],_,h=>by simp only[Bp]at h ⊢; exact h
 |_::_,_,h=>by
  simp only[Bp]at h ⊢; obtain⟨c1,c2,h1,h2,h3⟩:=h;exact⟨c1,c2,h1,bM.mono hg hm h2,Bp.mono hg hm h3⟩
end
theorem xe:∀{vs:List (CV S)} {cs:List Value},Bp K g m vs cs↔cJ K g m vs cs
 |[],_=>by simp only[Bp];exact Iff.rfl
 |_::_,_=>by
  simp only[Bp];exact⟨fun⟨c1,c2,h1,h2,h3⟩=>⟨c1,c2,h1,h2,xe.1 h3⟩,fun⟨c1,c2,h1,h2,h3⟩=>⟨c1,c2,h1,h2,xe.2 h3⟩⟩
theorem cJ.mono(hg:GE g g')(hm:Le m m'):∀{vs:List (CV S)} {cs:List Value},cJ K g m vs cs->cJ K g' m' vs cs
 |[],_,h=>h
 |_::_,_,⟨c1,c2,h1,h2,h3⟩=>⟨c1,c2,h1,h2.mono hg hm,h3.mono hg hm⟩
mutual
theorem bP.mono(hg:GE g g')(hm:Le m m'):∀{v:AV S} {x:Value},bP K g m v x->bP K g' m' v x
 |.one v,_,h=>by simp only[bP]at h ⊢; exact bM.mono hg hm h
 |.agg vs,_,h=>by simp only[bP]at h ⊢; obtain⟨cs,h1,h2⟩:=h;exact⟨cs,h1,h2.mono hg hm⟩
 |.dD vs,_,h=>by simp only[bP]at h ⊢; obtain⟨l,h1,h2⟩:=h;exact⟨l,h1,db.mono hg hm h2⟩
theorem db.mono(hg:GE g g')(hm:Le m m'):∀{vs:List (AV S)} {l:List Value},db K g m vs l->db K g' m' vs l
 |[],_,h=>by simp only[db]at h ⊢; exact h
 |v::vs,_,h=>by simp only[db]at h ⊢; obtain⟨x,r,h1,h2,h3⟩:=h;exact⟨x,r,h1,bP.mono hg hm h2,db.mono hg hm h3⟩
end
theorem Jq.mono{ν:Type}{kc:Co}{es:Array MapEntry}{ll:List (T S kc×(ν×Option Gh))}{hole:Option (T S kc)}(hm:Le m m')(h:Jq K m kc es ll hole):Jq K m' kc es ll hole:=by
 cases hole with
 |none=>exact h
 |some x=>exact fun i p e h1 h2 h3=>dv.mono K hm (h i p e h1 h2 h3)
theorem MJ.mono{kc:Co}{es:Array MapEntry}{hole:Option (T S kc×Nat)}(hg:GE g g')(hm:Le m m')(h:MJ K g m kc es hole):MJ K g' m' kc es hole:=by
 cases hole with
 |none=>exact h
 |some x=>obtain⟨j,e,gh,h1,h2,h3,h4⟩:=h;exact⟨j,e,gh,h1,dv.mono K hm h2,hg.bk _ _ h3,h4⟩
theorem itR.mono{kc:Co}{sk:List (Value×Nat)}{seen:Array Nat}{st:Option (Option (T S kc))}(hm:Le m m')(h:itR K m kc sk seen st):itR K m' kc sk seen st:=by
 match st,h with
 |none,h=>exact h
 |some none,h=>exact h
 |some (some x),⟨j,p,h1,h2,h3⟩=>exact⟨j,p,h1,h2,dv.mono K hm h3⟩
theorem iY.mono(hg:GE g g')(hm:Le m m'){k:Nat}{o:AO S}{e:bR}(h:iY K g m k o e):iY K g' m' k o e:=by
 cases o with
 |box T cs=>obtain⟨gh,b,vs,h1,h2,h3,h4⟩:=h;exact⟨gh,b,vs,hg.bk _ _ h1,h2,h3,h4.mono hg hm⟩
 |row T c=>obtain⟨gh,h1,h2⟩:=h;exact⟨gh,hg.bk _ _ h1,h2⟩
 |arr T c full l=>obtain⟨gh,cs,h1,h2,h3,h4,h5⟩:=h;exact⟨gh,cs,hg.bk _ _ h1,h2,h3,h4.mono (cF K c) hm,fun hf=>⟨(h5 hf).1,(h5 hf).2.mono (cF K c) hm⟩⟩
 |loop r st tm=>obtain⟨gh,l,R,rg,tmps,h1,h2,h3,h4,h5,h6,h7⟩:=h;exact⟨gh,l,R,rg,tmps,hg.bk _ _ h1,h2,h3,h4,h5,h6,fun t bT v hl=>(h7 t bT v hl).mono hg hm⟩
 |map t kc vc l hole=>obtain⟨gh,b,es,clock,h1,h2,h3,h4,h5⟩:=h;exact⟨gh,b,es,clock,hg.bk _ _ h1,h2,h3,h4.mono (fun _ _ h=>dv.mono K hm h) fun y _ h=>(cF K vc).mono h hm,h5.mono hg hm⟩
 |qE t et kc c l hole=>obtain⟨gh,b,es,clock,ll,h1,h2,h3,h4,h5,h6⟩:=h;exact⟨gh,b,es,clock,ll,hg.bk _ _ h1,h2,h3,h4.mono (fun _ _ h=>dv.mono K hm h) fun y _ h=>Q4.mono K hm h,h5,h6.mono hm⟩
 |EP t kc l=>obtain⟨gh,b,es,clock,h1,h2,h3,h4⟩:=h;exact⟨gh,b,es,clock,hg.bk _ _ h1,h2,h3,h4.mono (fun _ _ h=>dv.mono K hm h) fun y _ h=>⟨h.1,h.2.mono hg hm⟩⟩
 |lD t kc vc l hole q=>obtain⟨gh,b,es,gq,h1,h2,h3,h4,h5,h6,h7,h8⟩:=h;exact⟨gh,b,es,gq,hg.bk _ _ h1,h2,hg.bk _ _ h3,h4,h5,h6.mono (fun _ _ h=>dv.mono K hm h) fun y _ h=>(cF K vc).mono h hm,h7.mono hg hm,h8⟩
 |sD kc o st=>obtain⟨gh,go,r,seen,h1,h2,h3,h4,h5,h6⟩:=h;exact⟨gh,go,r,seen,hg.bk _ _ h1,h2,hg.bk _ _ h3,h4,h5,h6.mono hm⟩
theorem eW.mono(hg:GE g g')(hm:Le m m'):∀{l:List (Nat×Nat×AO S)} {L:List bR},eW K g m l L->eW K g' m' l L
 |[],_,h=>h
 |_::_,_,⟨e,L',h1,h2,h3,h4⟩=>⟨e,L',h1,hg.oo _ _ h2,h3.mono hg hm,eW.mono hg hm h4⟩
theorem B6.mono(hg:GE g g')(hm:Le m m'):∀{l:List (Nat×AO S)} {L:List bR},B6 K g m l L->B6 K g' m' l L
 |[],_,h=>h
 |_::_,_,⟨e,L',h1,h3,h4⟩=>⟨e,L',h1,h3.mono hg hm,B6.mono hg hm h4⟩
end
end E
end
section
open Go.RowKit G
namespace E
variable {S:Nat->Type}
def yx(P:Program):List Field->Option (List (TypeId×Nat×Nat))
 |[]=>some []
 |f::l=>match P.info? f.type,yx P l with
  |some i,some r=>some ((f.type,f.offset,i.size)::r)
  |_,_=>none
def UG(P:Program)(t:TypeId):Option (List (TypeId×Nat×Nat)):=match P.underlying t with
 |some (.struct fields)=>yx P fields.toList
 |_=>none
theorem Al{P:Program}:∀{l:List Field} {fs:List (TypeId×Nat×Nat)} {i:Nat} {f:TypeId×Nat×Nat},yx P l=some fs->fs[i]?=some f->∃fl inf,l[i]?=some fl/\fl.type=f.1/\fl.offset=f.2.1/\P.info? f.1=some inf/\inf.size=f.2.2
 |[],fs,i,f,h,hf=>by simp only[yx,af]at h;subst h;simp at hf
 |x::l,fs,i,f,h,hf=>by
  unfold yx at h;split at h
  . rename_i inf r h1 h2;cases h
    cases i with
    |zero=>simp at hf;subst hf;exact⟨x,inf,rfl,rfl,rfl,h1,rfl⟩
    |succ i=>simpa using Al h2 (by simpa using hf)
  . cases h
theorem yz{P:Program}{t:TypeId}{fs:List (TypeId×Nat×Nat)}(h:UG P t=some fs):∃fields,P.underlying t=some (.struct fields)/\yx P fields.toList=some fs:=by
 unfold UG at h;split at h
 . rename_i fields hu;exact⟨fields,hu,h⟩
 . cases h
def rG:TypeDesc->Bool
 |.func _ _ _=>true
 |_=>false
def Vo(P:Program)(t:TypeId):TD->Prop
 |.int k=>P.underlying t=some (.int k)
 |.bool=>P.underlying t=some .bool
 |.str=>P.underlying t=some .string
 |.ptr e=>P.underlying t=some (.pointer e)
 |.slice e=>P.underlying t=some (.slice e)
 |.array n e=>P.underlying t=some (.array n e)
 |.struct fs=>UG P t=some fs
 |.map k v=>P.underlying t=some (.map k v)
 |.func=>(P.underlying t).map rG=some true
 |.iface=>(P.underlying t).map vZ=some false
def Z8:CV S->Bool
 |.int _ _=>true
 |.u8 _=>true
 |.tt _=>true
 |.str _=>true
 |.fg=>true
 |.kG=>true
 |.fB=>true
 |.Bv=>true
 |.xV=>true
 |.a8 _ _=>true
 |.ai _ _ _=>true
 |_=>false
def zeroOf(i:TI S):Value:=match fu i.d with
 |true=>.agg (jc i.zero).toArray
 |false=>(jc i.zero).headD undef
structure ED(P:Program)(t:TypeId)(i:TI S):Prop where
 td:Vo P t i.d
 info:(P.info? t).map (fun x=>(x.zero,x.size,x.bytes))=some (some (zeroOf i),i.size,i.bytes)
 VO:i.zero.all Z8=true
 len:(jc i.zero).length=i.size
 one:fu i.d=false->i.size=1
def tdL(P:Program)(t:TypeId):TD->Option TypeDesc×Option (List (TypeId×Nat×Nat))×Option Bool
 |.struct _=>(none,UG P t,none)
 |.func=>(none,none,(P.underlying t).map rG)
 |.iface=>(none,none,(P.underlying t).map vZ)
 |_=>(P.underlying t,none,none)
def tdG:TD->Option TypeDesc×Option (List (TypeId×Nat×Nat))×Option Bool
 |.int k=>(some (.int k),none,none)
 |.bool=>(some .bool,none,none)
 |.str=>(some .string,none,none)
 |.ptr e=>(some (.pointer e),none,none)
 |.slice e=>(some (.slice e),none,none)
 |.array n e=>(some (.array n e),none,none)
 |.struct fs=>(none,some fs,none)
 |.map k v=>(some (.map k v),none,none)
 |.func=>(none,none,some true)
 |.iface=>(none,none,some false)
theorem ZR{P:Program}{t:TypeId}{d:TD}(h:tdL P t d=tdG d):Vo P t d:=by
 cases d<;>simpa[tdL,tdG,Vo]using h
theorem ZX{P:Program}{l:List (Nat×TI S)}(h1:l.map (fun p=>tdL P p.1 p.2.d)=l.map (fun p=>tdG p.2.d))(h2:l.map (fun p=>(P.info? p.1).map (fun x=>(x.zero,x.size,x.bytes)))=l.map (fun p=>some (some (zeroOf p.2),p.2.size,p.2.bytes)))(h3:(l.all fun p=>p.2.zero.all Z8&&Nat.beq (jc p.2.zero).length p.2.size&&(fu p.2.d||Nat.beq p.2.size 1))=true):∀p∈l,ED P p.1 p.2:=fun p hp=>by
 have k:=aE.1 h3 p hp;simp only[al,Bool.or_eq_true]at k;refine⟨ZR (List.map_inj_left.1 h1 p hp),List.map_inj_left.1 h2 p hp,k.1.1,ah k.1.2,fun h=>?_⟩;rcases k.2 with k|k
 . rw[h]at k;cases k
 . exact ah k
variable {tb:Tb S}
structure Ri(K:ep tb)(P:Program)(t:TypeId)(z:List (CV S)):Prop where
 guard:P.eqGuardType P.depth t=false
 eql:∀(g:GG S) (m:Mem) (vs ws:List (CV S)) (p:PSigma fun p:Prop=>Decidable p) (xs ys:List Value) (w:World),kindOk z vs=true->kindOk z ws=true->zl vs ws=some p->cJ K g m vs xs->cJ K g m ws ys->(binOp .eql t (.agg xs.toArray) (.agg ys.toArray)).run P w=.ok (.bool (@decide p.1 p.2)) w
structure dx(P:Program)(K:ep tb)(tt:TypeId->Option (TI S)):Prop where
 eq:∀t i,tt t=some i->i.eq=true->Ri K P t i.zero
 ty:∀t i,tt t=some i->ED P t i
 el:∀t i e c,tt t=some i->i.d=.slice e->i.co=.sl c->∃ei,tt e=some ei/\ei.size=zK K c/\0<ei.bytes
 mp:∀t i kt et kc vc,tt t=some i->i.d=.map kt et->i.co=.mp kc vc->Dg tb kc=true->fS P kt (fun x v=>∃m,dv K kc m x v) (iX tb kc)
variable {K:ep tb}{g:GG S}{m:Mem}
theorem PV:∀{v:CV S},Z8 v=true->bM K g m v (ui v)
 |.int _ _,_| .u8 _,_| .tt _,_| .str _,_| .fg,_| .kG,_| .fB,_| .Bv,_| .xV,_| .a8 _ _,_| .ai _ _ _,_=>by simp only[bM,ui]
theorem kQ:∀{vs:List (CV S)},vs.all Z8=true->cJ K g m vs (jc vs)
 |[],_=>rfl
 |v::vs,h=>by
  simp only[List.all_cons,al]at h;exact⟨ui v,jc vs,by simp[jc],PV h.1,kQ h.2⟩
theorem bM.len:∀{v:CV S} {cs:List Value},bM K g m v cs->cs.length=v.n
 |.int _ _,_,h| .u8 _,_,h| .bo _ _ _ _,_,h| .tt _,_,h| .str _,_,h| .fg,_,h| .kG,_,h| .fB,_,h| .Bv,_,h| .xV,_,h=>by simp only[bM]at h;rw[h];rfl
 |.a8 _ _,_,h| .ai _ _ _,_,h=>by simp only[bM]at h;rw[h];simp[CV.n]
 |.sl c l,_,h=>by simp only[bM]at h;obtain⟨a,c,h,_⟩:=h;rw[h];rfl
 |.Xi c l,_,h=>by simp only[bM]at h;obtain⟨a,h,_⟩:=h;rw[h];rfl
 |.rw o c l,_,h=>by simp only[bM]at h;obtain⟨gh,l0,ad,_,h,_⟩:=h;rw[h];rfl
 |.aw o,_,h=>by simp only[bM]at h;obtain⟨gh,_,h⟩:=h;rw[h];rfl
 |.ptr o off,_,h=>by simp only[bM]at h;obtain⟨gh,b,_,_,h⟩:=h;rw[h];rfl
 |.yl o,_,h=>by simp only[bM]at h;obtain⟨gh,b,_,_,h⟩:=h;rw[h];rfl
 |.mp o,_,h=>by simp only[bM]at h;obtain⟨gh,b,_,_,h⟩:=h;rw[h];rfl
 |.Xo o _,_,h=>by simp only[bM]at h;obtain⟨gh,_,h⟩:=h;rw[h];rfl
 |.Wq o,_,h=>by simp only[bM]at h;obtain⟨gh,b,_,_,h⟩:=h;rw[h];rfl
 |.rz o _ _,_,h=>by simp only[bM]at h;obtain⟨gh,b,_,_,h,_⟩:=h;rw[h];rfl
 |.pt o _ _ _,_,h=>by simp only[bM]at h;obtain⟨gh,_,h,_⟩:=h;rw[h];rfl
 |.na _ _,_,h=>by simp only[bM]at h;obtain⟨b,h,_⟩:=h;rw[h];rfl
 |.el c x off,_,h=>by simp only[bM]at h;obtain⟨b,p,ecs,h,_⟩:=h;rw[h];rfl
 |.KG o v c x j off,_,h=>by simp only[bM]at h;obtain⟨gh,b,p,e,f,l,en,_,_,h,_⟩:=h;rw[h];rfl
 |.Sd o off n i,_,h=>by simp only[bM]at h;obtain⟨gh,b,_,_,h,_⟩:=h;rw[h];rfl
 |.px o off n i j,_,h=>by simp only[bM]at h;obtain⟨gh,b,_,_,h,_⟩:=h;rw[h];rfl
 |.fn f xs ys,_,h=>by simp only[bM]at h;obtain⟨v1,v2,h,_⟩:=h;rw[h];rfl
 |.ag _,_,h=>by simp only[bM]at h
theorem R8:∀{v:CV S} {cs:List Value},bM K g m v cs->∀u∈cs,u.oneCell'=true
 |.int _ _,_,h| .u8 _,_,h| .bo _ _ _ _,_,h| .tt _,_,h| .str _,_,h| .fg,_,h| .kG,_,h| .fB,_,h| .Bv,_,h| .xV,_,h=>by simp only[bM]at h;subst h;intro u hu;simp at hu;subst hu;rfl
 |.a8 _ _,_,h| .ai _ _ _,_,h=>by simp only[bM]at h;subst h;intro u hu;simp at hu;obtain⟨_,_,rfl⟩:=hu;rfl
 |.sl c l,_,h=>by simp only[bM]at h;obtain⟨a,c,h,_⟩:=h;subst h;intro u hu;simp at hu;subst hu;rfl
 |.Xi c l,_,h=>by simp only[bM]at h;obtain⟨a,h,_⟩:=h;subst h;intro u hu;simp at hu;subst hu;rfl
 |.rw o c l,_,h=>by simp only[bM]at h;obtain⟨gh,l0,ad,_,h,_⟩:=h;subst h;intro u hu;simp at hu;subst hu;rfl
 |.aw o,_,h=>by simp only[bM]at h;obtain⟨gh,_,h⟩:=h;subst h;intro u hu;simp at hu;subst hu;rfl
 |.ptr o off,_,h=>by simp only[bM]at h;obtain⟨gh,b,_,_,h⟩:=h;subst h;intro u hu;simp at hu;subst hu;rfl
 |.yl o,_,h=>by simp only[bM]at h;obtain⟨gh,b,_,_,h⟩:=h;subst h;intro u hu;simp at hu;subst hu;rfl
 |.mp o,_,h=>by simp only[bM]at h;obtain⟨gh,b,_,_,h⟩:=h;subst h;intro u hu;simp at hu;subst hu;rfl
 |.Xo o _,_,h=>by simp only[bM]at h;obtain⟨gh,_,h⟩:=h;subst h;intro u hu;simp at hu;subst hu;rfl
 |.Wq o,_,h=>by simp only[bM]at h;obtain⟨gh,b,_,_,h⟩:=h;subst h;intro u hu;simp at hu;subst hu;rfl
 |.rz o _ _,_,h=>by simp only[bM]at h;obtain⟨gh,b,_,_,h,_⟩:=h;subst h;intro u hu;simp at hu;subst hu;rfl
 |.pt o _ _ _,_,h=>by simp only[bM]at h;obtain⟨gh,_,h,_⟩:=h;subst h;intro u hu;simp at hu;subst hu;rfl
 |.na _ _,_,h=>by simp only[bM]at h;obtain⟨b,h,_⟩:=h;subst h;intro u hu;simp at hu;subst hu;rfl
 |.el c x off,_,h=>by simp only[bM]at h;obtain⟨b,p,ecs,h,_⟩:=h;subst h;intro u hu;simp at hu;subst hu;rfl
 |.KG o v c x j off,_,h=>by simp only[bM]at h;obtain⟨gh,b,p,e,f,l,en,_,_,h,_⟩:=h;subst h;intro u hu;simp at hu;subst hu;rfl
 |.Sd o off n i,_,h=>by simp only[bM]at h;obtain⟨gh,b,_,_,h,_⟩:=h;subst h;intro u hu;simp at hu;subst hu;rfl
 |.px o off n i j,_,h=>by simp only[bM]at h;obtain⟨gh,b,_,_,h,_⟩:=h;subst h;intro u hu;simp at hu;subst hu;rfl
 |.fn f xs ys,_,h=>by simp only[bM]at h;obtain⟨v1,v2,h,_⟩:=h;subst h;intro u hu;simp at hu;subst hu;rfl
 |.ag _,_,h=>by simp only[bM]at h
theorem xg:∀{vs:List (CV S)} {cs:List Value},cJ K g m vs cs->∀u∈cs,u.oneCell'=true
 |[],_,h=>by simp only[cJ]at h;subst h;intro u hu;cases hu
 |v::vs,_,⟨c1,c2,rfl,h1,h2⟩=>fun u hu=>by
  rcases bj.1 hu with hu|hu
  . exact R8 h1 u hu
  . exact xg h2 u hu
theorem ND:∀{vs:List (CV S)} {cs:List Value},cJ K g m vs cs->cs.length=ME vs
 |[],_,h=>by simp only[cJ]at h;subst h;rfl
 |v::vs,_,⟨c1,c2,rfl,h1,h2⟩=>by rw[ay,h1.len,ND h2];simp[ME]
theorem pb:∀{vs ws:List (CV S)} {c1 c2:List Value},cJ K g m vs c1->cJ K g m ws c2->cJ K g m (vs++ws) (c1++c2)
 |[],_,_,_,h,k=>by simp only[cJ]at h;subst h;exact k
 |v::vs,_,_,_,⟨d1,d2,rfl,h1,h2⟩,k=>⟨d1,d2++_,by rw[az],h1,pb h2 k⟩
theorem mB{v:CV S}{cs:List Value}(h:cJ K g m [v] cs):bM K g m v cs:=by
 obtain⟨c1,c2,rfl,h1,h2⟩:=h;simp only[cJ]at h2;subst h2;simpa using h1
theorem jd{v:CV S}{cs:List Value}(h:bM K g m v cs):cJ K g m [v] cs:=⟨cs,[],by simp,h,rfl⟩
theorem qw:∀{o:Nat} {vs ws:List (CV S)} {cs:List Value},cutAt o vs=some ws->cJ K g m vs cs->cJ K g m ws (cs.drop o)/\o<=cs.length
 |0,vs,_,cs,h,k=>by simp only[cutAt,af]at h;subst h;simpa using k
 |o+1,[],_,_,h,_=>by simp[cutAt]at h
 |o+1,v::vs,ws,_,h,⟨c1,c2,rfl,h1,h2⟩=>by
  unfold cutAt at h;split at h
  . rename_i hle;have hle:=aj hle;obtain⟨k1,k2⟩:=qw h h2;have:=h1.len;refine⟨?_,by rw[ay];omega⟩;rw[List.drop_append,List.drop_of_length_le (by omega),aO,this];exact k1
  . cases h
termination_by _ vs=>vs.length
theorem tf:∀{n:Nat} {vs ws:List (CV S)} {cs:List Value},qx n vs=some ws->cJ K g m vs cs->cJ K g m ws (cs.take n)/\n<=cs.length
 |0,vs,_,cs,h,k=>by simp only[qx,af]at h;subst h;simp[cJ]
 |n+1,[],_,_,h,_=>by simp[qx]at h
 |n+1,v::vs,ws,_,h,⟨c1,c2,rfl,h1,h2⟩=>by
  unfold qx at h;split at h
  . rename_i hle;have hle:=aj hle;obtain⟨ws',hw,rfl⟩:=ab.1 h;obtain⟨k1,k2⟩:=tf hw h2;have:=h1.len;refine⟨⟨c1,c2.take (n+1-v.n),?_,h1,k1⟩,by rw[ay];omega⟩;rw[List.take_append,bA (by omega),this]
  . cases h
termination_by _ vs=>vs.length
theorem w8:∀{o:Nat} {vs:List (CV S)} {v:CV S} {cs:List Value},ta o vs=some v->cJ K g m vs cs->∃x,cs[o]?=some x/\bM K g m v [x]
 |_,[],_,_,h,_=>by simp[ta]at h
 |o,w::vs,v,_,h,⟨c1,c2,rfl,h1,h2⟩=>by
  have hl:=h1.len;unfold ta at h;split at h
  . rename_i hle;have hle:=aj hle;obtain⟨x,k1,k2⟩:=w8 h h2;exact⟨x,by rw[List.getElem?_append_right (by omega),hl];exact k1,k2⟩
  . rename_i hle;have hlt:o<w.n:=Nat.lt_of_not_le fun h'=>by rw[Nat.ble_eq_true_of_le h']at hle;cases hle
    rw[List.getElem?_append_left (by omega)];split at h
    . cases h;simp only[bM]at h1;subst h1;simp only[CV.n]at hlt;exact⟨_,by simp[hlt];rfl,by simp only[bM]⟩
    . cases h;simp only[bM]at h1;subst h1;simp only[CV.n]at hlt;exact⟨_,by simp[hlt];rfl,by simp only[bM]⟩
    . rename_i hne1 hne2;cases h;have hn:w.n=1:=by cases w<;>first|rfl|exact absurd rfl (hne1 _ _)|exact absurd rfl (hne2 _ _ _)
      rw[hn]at hl hlt;obtain rfl:o=0:=by omega
      match c1,hl with
      |[x],_=>exact⟨x,rfl,h1⟩
theorem WX{o n:Nat}{xs vs ws:List (CV S)}{cs ds:List Value}(h:ZF o n xs vs=some ws)(hx:cJ K g m xs ds)(hn:ds.length=n)(hv:cJ K g m vs cs):cJ K g m ws (cs.take o++ds++cs.drop (o+n))/\o+n<=cs.length:=by
 unfold ZF at h;obtain⟨a,ha,h⟩:=aa.1 h;obtain⟨b,hb,rfl⟩:=ab.1 h;obtain⟨k1,_⟩:=tf ha hv;obtain⟨k2,k3⟩:=qw hb hv;refine⟨?_,k3⟩;rw[az];exact pb k1 (pb hx k2)
theorem sa{α:Type}(n:Nat)(f:Nat->α)(o:Nat)(y:α)(mk:α->Value)(h:o<n):(List.range n).map (fun i=>mk (tU f o y i))=((List.range n).map fun i=>mk (f i)).set o (mk y):=by
 refine List.ext_getElem (by simp) fun i h1 h2=>?_
 simp only[List.getElem_map,List.getElem_range,List.getElem_set,tU];by_cases e:o=i
 . subst e;simp
 . rw[if_neg (by omega),if_neg e]
theorem vA{α:Type}(l:List α)(o:Nat)(x:α)(h:o<l.length):l.set o x=l.take o++[x]++l.drop (o+1):=by
 rw[List.set_eq_take_append_cons_drop,if_pos h];simp
theorem Oz:∀{o:Nat} {x:CV S} {vs ws:List (CV S)} {cs:List Value} {u:Value},TB o x vs=some ws->bM K g m x [u]->cJ K g m vs cs->cJ K g m ws (cs.set o u)/\o<cs.length
 |_,_,[],_,_,_,h,_,_=>by simp[TB]at h
 |o,x,w::vs,ws,_,u,h,hx,⟨c1,c2,rfl,h1,h2⟩=>by
  have hl:=h1.len;unfold TB at h;split at h
  . rename_i hle;have hle:=aj hle;obtain⟨ws',hw,rfl⟩:=ab.1 h;obtain⟨k1,k2⟩:=Oz hw hx h2;refine⟨⟨c1,c2.set (o-w.n) u,?_,h1,k1⟩,by rw[ay];omega⟩;rw[List.set_append_right _ _ (by omega),hl]
  . rename_i hle;have hlt:o<w.n:=Nat.lt_of_not_le fun h'=>by rw[Nat.ble_eq_true_of_le h']at hle;cases hle
    refine⟨?_,by rw[ay];omega⟩;rw[List.set_append_left _ _ (by omega)];split at h
    . cases h;simp only[bM]at h1;subst h1;simp only[CV.n]at hlt;refine⟨_,c2,rfl,?_,h2⟩;simp only[bM]at hx ⊢;rw[sa _ _ _ _ (fun y:UInt8=>Value.int .u8 (y.toNat:Int)) hlt];congr 1;simpa using hx
    . split at h
      . rename_i hk _;cases h;simp only[bM]at h1;subst h1;simp only[CV.n]at hlt;refine⟨_,c2,rfl,?_,h2⟩;simp only[bM]at hx ⊢;subst hk;rw[sa _ _ _ _ (fun y:Int=>Value.int _ y) hlt];congr 1;simpa using hx
      . cases h
    . cases h
    . cases h
    . rename_i hne1 hne2 _ _;cases h;have hn:w.n=1:=by cases w<;>first|rfl|exact absurd rfl (hne1 _ _)|exact absurd rfl (hne2 _ _ _)
      rw[hn]at hl hlt;obtain rfl:o=0:=by omega
      match c1,hl with
      |[y],_=>exact⟨[u],c2,by simp,hx,h2⟩
theorem Cz{c d:Co}(h:c=d){l:List (T S c)}{m:Mem}{a:Option Addr}{n:Nat}(k:dM (RK K c) m (zK K c) a n l):dM (RK K d) m (zK K d) a n (ng h l):=by subst h;exact k
theorem lQ{c d:Co}(h:c=d)(l:List (T S c)):(ng h l).length=l.length:=by subst h;rfl
theorem Hi:∀{c:Co} {v:CV S} {x:T S c} {cs:List Value},Qr c v=some x->bM K g m v cs->RK K c m x cs:=by
 intro c v x cs h hv;unfold Qr at h;split at h
 . split at h
   . rename_i hk _;cases h;subst hk;simp only[bM]at hv;exact hv
   . cases h
 . cases h;simp only[bM]at hv;exact hv
 . cases h;simp only[bM]at hv;exact hv
 . cases h;simp only[bM]at hv;exact hv
 . cases h;simp only[bM]at hv;exact hv
 . split at h
   . rename_i hk _;cases h;simp only[bM]at hv;obtain⟨a,n,h1,h2⟩:=hv;exact⟨a,n,by rw[lQ];exact h1,Cz hk h2⟩
   . cases h
 . split at h
   . rename_i hk _;cases h;simp only[bM]at hv;obtain⟨a,h1,h2⟩:=hv;exact⟨a,_,by rw[lQ];exact h1,Cz hk h2⟩
   . cases h
 . split at h
   . rename_i hk _;cases h;simp only[bM]at hv;obtain⟨gh,l0,ad,h0,h1,h2,h3⟩:=hv;exact⟨_,_,by rw[lQ];exact h1,Cz hk h2⟩
   . cases h
 . cases h;simp only[bM]at hv;exact⟨none,0,hv,dM.nil _ _⟩
 . split at h
   . rename_i hk;simp only[al]at hk;have h1:=ah hk.1;have h2:=aj hk.2;cases h;subst h1;simp only[bM]at hv;exact⟨hv,h2⟩
   . cases h
 . split at h
   . rename_i hk2 hk _;simp only[al]at hk;have h1:=ah hk.1;have h2:=aj hk.2;cases h;subst h1;subst hk2;simp only[bM]at hv;exact⟨hv,h2⟩
   . cases h
 . cases h
theorem toCV_ok:∀{c:Co} {x:T S c} {cs:List Value},Hf c=true->RK K c m x cs->bM K g m (toCV c x) cs
 |.int k,x,cs,_,h=>by simp only[toCV,bM];exact h
 |.u8,x,cs,_,h=>by simp only[toCV,bM];exact h
 |.bo,x,cs,_,h=>by simp only[toCV,bM];exact h
 |.str,x,cs,_,h=>by simp only[toCV,bM];exact h
 |.sl c,x,cs,_,h=>by simp only[toCV,bM];exact h
 |.st _,_,_,h,_=>by cases h
 |.a8 n,x,cs,_,h=>by simp only[toCV,bM];exact h.1
 |.ai n k,x,cs,_,h=>by simp only[toCV,bM];exact h.1
theorem toCVs_ok:∀{cs:List Co} {h:HL S cs} {vs:List Value},cs.all Hf=true->Jl K.R K.sz m cs h vs->cJ K g m (toCVs cs h) vs
 |[],_,_,_,h=>h
 |c::cs,h,_,hn,⟨v1,v2,e,h1,h2⟩=>by
  simp only[List.all_cons,al]at hn;exact⟨v1,v2,e,toCV_ok hn.1 h1,toCVs_ok hn.2 h2⟩
theorem Am{c:Co}{x:T S c}{cs:List Value}(h:RK K c m x cs):cJ K g m (Q7 tb c x) cs:=by
 cases c with
 |st i=>exact toCVs_ok (K.flat i) ((K.spec i m x cs).1 h)
 |_=>exact jd (toCV_ok rfl h)
theorem JU:∀{cs:List Co} {vs ws:List (CV S)} {h:HL S cs} {us:List Value},FL cs vs=some (h,ws)->cJ K g m vs us->∃c1 c2,us=c1++c2/\Jl K.R K.sz m cs h c1/\cJ K g m ws c2
 |[],vs,ws,h,us,e,hv=>by
  simp only[FL,af,aA]at e;obtain⟨_,rfl⟩:=e;exact⟨[],us,rfl,rfl,hv⟩
 |_::_,[],_,_,_,e,_=>by simp[FL]at e
 |c::cs,v::vs,ws,h,_,e,⟨d1,d2,rfl,h1,h2⟩=>by
  simp only[FL]at e;obtain⟨x,hx,e⟩:=aa.1 e;obtain⟨p,hp,e⟩:=ab.1 e;obtain⟨ph,pw⟩:=p;simp only[aA]at e;obtain⟨rfl,rfl⟩:=e;obtain⟨c1,c2,rfl,k1,k2⟩:=JU hp h2;exact⟨d1++c1,c2,by rw[az],⟨d1,c1,rfl,Hi hx h1,k1⟩,k2⟩
theorem X0{c:Co}{vs ws:List (CV S)}{x:T S c}{us:List Value}(h:pk tb c vs=some (x,ws))(hv:cJ K g m vs us):∃c1 c2,us=c1++c2/\RK K c m x c1/\cJ K g m ws c2:=by
 unfold pk at h;split at h
 . obtain⟨p,hp,e⟩:=ab.1 h;obtain⟨ph,pw⟩:=p;simp only[aA]at e;obtain⟨rfl,rfl⟩:=e;obtain⟨c1,c2,rfl,k1,k2⟩:=JU hp hv;refine⟨c1,c2,rfl,(K.spec _ _ _ _).2 ?_,k2⟩;rw[K.X5];exact k1
 . cases h
 . obtain⟨y,hy,e⟩:=ab.1 h;simp only[aA]at e;obtain⟨rfl,rfl⟩:=e;obtain⟨c1,c2,rfl,h1,h2⟩:=hv;exact⟨c1,c2,rfl,Hi hy h1,h2⟩
theorem tJ{c:Co}{vs:List (CV S)}{x:T S c}{us:List Value}(h:BU tb c vs=some x)(hv:cJ K g m vs us):RK K c m x us:=by
 unfold BU at h;obtain⟨p,hp,h⟩:=aa.1 h;obtain⟨px,pw⟩:=p;split at h
 . rename_i hw;obtain rfl:pw=[]:=hw;cases h;obtain⟨c1,c2,rfl,k1,k2⟩:=X0 hp hv;simp only[cJ]at k2;subst k2;simpa using k1
 . cases h
theorem mg{c:Co}{v:CV S}{l:List (T S c)}{u:Value}(h:Xj c v=some l)(hv:bM K g m v [u]):∃a n,u=.slice a l.length n/\dM (RK K c) m (zK K c) a n l:=by
 obtain⟨a,n,h1,h2⟩:LQ (RK K c) (zK K c) m l [u]:=Hi (c:=.sl c) h hv;exact⟨a,n,by simpa using h1,h2⟩
def oT(K:ep tb)(g:GG S)(m:Mem)(a:Act):List Operand->List (AV S)->Prop
 |[],vs=>vs=[]
 |x::xs,vs=>∃v vs',vs=v::vs'/\bP K g m v (a.eval x)/\oT K g m a xs vs'
def SQ(a:Act):List Operand->Kt
 |[]=>[]
 |.tmp t::l=>(t,a.eval (.tmp t))::SQ a l
 |_::l=>SQ a l
theorem da(a:Act):∀l,Ke a (SQ a l)
 |[]=>Ke.nil a
 |.tmp t::l=>Ke.cons rfl (da a l)
 |.const _::l=>da a l
 |.global _::l=>da a l
 |.func _::l=>da a l
theorem zC(a:Act):∀(l:List Operand) (t:Tmp),Operand.tmp t∈l->lk (SQ a l) t=some (a.eval (.tmp t))
 |[],_,h=>by cases h
 |.tmp s::l,t,h=>by
  unfold SQ lk;by_cases e:s=t
  . subst e;simp
  . rw[mT e];refine zC a l t ?_;rcases aB.1 h with h|h
    . cases h;exact absurd rfl e
    . exact h
 |.const _::l,t,h=>zC a l t (by rcases aB.1 h with h|h;cases h;exact h)
 |.global _::l,t,h=>zC a l t (by rcases aB.1 h with h|h;cases h;exact h)
 |.func _::l,t,h=>zC a l t (by rcases aB.1 h with h|h;cases h;exact h)
theorem bQ(a:Act)(l:List Operand){x:Operand}(h:x∈l):gV (SQ a l) x=some (a.eval x):=by
 cases x with
 |tmp t=>exact zC a l t h
 |const v=>rfl
 |global _=>rfl
 |func _=>rfl
def pick(ob:List (Nat×Nat×AO S)):List Nat->List (Nat×Nat×AO S)
 |[]=>[]
 |q::l=>match look q ob with|some x=>(q,x)::pick ob l|none=>pick ob l
structure AA(K:ep tb)(g:GG S)(m:Mem)(ct:Nat)(Lr Lm:List bR)(r:ia S)(v:Value)(w':World):Prop where
 ex:∃m' g' La,m'.w=w'/\St (bK (Lr++Lm)) m m' (Lr++La)/\GE g g'/\g'.vv=g.vv/\g'.oo=g.oo/\(∀i,g'.bk i≠g.bk i->ct+1<=i/\i<ct+32)/\B6 K g' m' r.add La/\bP K g' m' r.v v
def iE(g:GG S)(ct:Nat):Prop:=∀i,ct<=i->i<ct+64->g.bk i=none/\g.vv i=none/\g.oo i=none
structure sL(P:Program)(K:ep tb)(o:Oper)(xs:List (AV S))(ob:List (Nat×Nat×AO S))(ct:Nat)(r:ia S):Prop where
 uB:r.add.length<=31
 did:∀g a m Lr Lm,iE g ct->K.B m->oT K g m a o.op.operands.toList xs->eW K g m (pick ob r.rd) Lr->eW K g m (pick ob r.rm) Lm->Ow m (Lr++Lm)->bI P o a m.w fun v w'=>AA K g m ct Lr Lm r v w'
variable {P:Program}{o:Oper}{xs:List (AV S)}{ob:List (Nat×Nat×AO S)}{ct:Nat}{r:ia S}
theorem AA.pure{g:GG S}{m:Mem}{Lr:List bR}{v:Value}(hr:r.add=[])(hO:Ow m Lr)(hv:bP K g m r.v v):AA K g m ct Lr [] r v m.w:=
 ⟨m,g,[],rfl,by simpa using St.refl hO,GE.refl g,rfl,rfl,fun i h=>absurd rfl h,by rw[hr];rfl,hv⟩
theorem sL.pure(h1:r.rd=[])(h2:r.rm=[])(h3:r.add=[])(h:∀g a m,oT K g m a o.op.operands.toList xs->bI P o a m.w fun v w'=>w'=m.w/\bP K g m r.v v):sL P K o xs ob ct r:=
 ⟨by rw[h3];simp,fun g a m Lr Lm hf _ ho hr hm hO=>by
  rw[h1]at hr;rw[h2]at hm;simp only[pick,eW]at hr hm;subst hr;subst hm;refine(h g a m ho).mono fun v w' ⟨e,hv⟩=>?_
  subst e;exact AA.pure h3 (by simpa using hO) hv⟩
end E
end
section
open IntKind(i64)
open Go.RowKit G
namespace E
variable {S:Nat->Type}{tb:Tb S}{K:ep tb}{P:Program}{o:Oper}
theorem bI.val{a:Act}{w:World}{v:Value}{b6:Value->World->Prop}(h:(execOp a.eval o).run P w=.ok (.value v) w)(hp:b6 v w):bI P o a w b6:=by
 unfold bI;rw[h];exact hp
theorem rP{g:GG S}{m:Mem}{v:CV S}{k:IntKind}{x:Int}{u:Value}(h:num v=some (k,x))(hv:bM K g m v [u]):u=.int k x/\(k=.u8->∃c:UInt8,x=(c.toNat:Int)):=by
 cases v<;>simp only[num]at h<;>try(cases h;done)
 . split at h
   . cases h
   . rename_i hk;cases h;simp only[bM]at hv;exact⟨by simpa using hv,fun e=>absurd e hk⟩
 . cases h;simp only[bM]at hv;exact⟨by simpa using hv,fun _=>⟨_,rfl⟩⟩
theorem zG{g:GG S}{m:Mem}{k:IntKind}{x:Int}(h:k=.u8->x=((G.u8 x).toNat:Int)):bM K g m (qL k x) [.int k x]:=by
 unfold qL;split
 . simp only[bM];rw[<- h rfl]
 . simp only[bM]
theorem MP{g:GG S}{m:Mem}{k:IntKind}{x:Int}:bM K g m (Xy k x) [.int k (k.wrap x)]:=by
 unfold Xy;split
 . simp only[bM];rw[Xr]
 . simp only[bM]
section
variable {γ:Type}{k:CV S->Option γ}{r:γ}{x y:Operand}{xT yT:TypeId}{op:BinOp}
def Iw(P:Program)(K:ep tb)(o:Oper)(v:CV S)(a b:Value)(ρ:Operand->Value)(g:GG S)(m:Mem):Prop:=∃u,(execOp ρ o).run P m.w=.ok (.value u) m.w/\bM K g m v [u]
theorem Ol{z:Int}{kw:IntKind}{ρ:Operand->Value}(hρ:∀c,ρ (.const c)=c)(h:G6 y=true)(hy:ρ y=.int kw z):0<z:=by
 unfold G6 at h;split at h
 . rw[hρ]at hy;cases hy;simpa using h
 . cases h
theorem SZ{z:Int}{kw:IntKind}{ρ:Operand->Value}(hρ:∀c,ρ (.const c)=c)(h:Oj y=true)(hy:ρ y=.int kw z):0<=z:=by
 unfold Oj at h;split at h
 . rw[hρ]at hy;cases hy;simpa using h
 . cases h
theorem ZY(c:UInt8)(z:Int):Int.tmod (c.toNat:Int) z=((G.u8 (Int.tmod (c.toNat:Int) z)).toNat:Int):=by
 have hc:c.toNat<256:=c.toNat_lt;have key:∀n:Nat,n<=c.toNat->((n:Nat):Int)=((G.u8 (n:Int)).toNat:Int):=fun n hn=>by
  unfold G.u8;rw[UInt8.toNat_ofNat'];omega
 cases z with
 |ofNat n=>exact key _ (Nat.mod_le _ _)
 |negSucc n=>exact key _ (Nat.mod_le _ _)
theorem WK{kv kw:IntKind}{i z:Int}(ho:o.op=.binOp op xT x y yT)(hk8:kv=.u8->∃c:UInt8,i=(c.toNat:Int))(h:pZ op kv kw i z y k=some r):
 ∃v,k v=some r/\∀(g:GG S) (m:Mem) (ρ:Operand->Value),(∀c,ρ (.const c)=c)->ρ x=.int kv i->ρ y=.int kw z->Iw P K o v (.int kv i) (.int kw z) ρ g m:=by
 have h8:∀{t:Int},(∃q,t=IntKind.u8.wrap q)->t=((G.u8 t).toNat:Int):=fun h=>MN h
 have wr:∀(kk:IntKind) (q:Int),kk=.u8->∃t,kk.wrap q=IntKind.u8.wrap t:=fun kk q e=>⟨q,by rw[e]⟩
 unfold pZ at h
 split at h
 . have key:∀{g:GG S} {m:Mem} {ρ:Operand->Value},0<=z->ρ x=.int kv i->ρ y=.int kw z->Iw P K o (qL kv (Bt kv i z)) (.int kv i) (.int kw z) ρ g m:=fun hz hx hy=>
    ⟨_,W8 hz ho hx hy,zG fun e=>by subst e;exact h8 ⟨_,rfl⟩⟩
   split at h
   . rename_i hl;exact⟨_,h,fun g m ρ hρ hx hy=>key (SZ hρ hl hy) hx hy⟩
   . obtain⟨u,hu,h⟩:=aa.1 h
     exact⟨_,h,fun g m ρ hρ hx hy=>key (gi hu) hx hy⟩
 . have key:∀{g:GG S} {m:Mem} {ρ:Operand->Value},0<=z->ρ x=.int kv i->ρ y=.int kw z->Iw P K o (qL kv (fR kv i z)) (.int kv i) (.int kw z) ρ g m:=fun hz hx hy=>
    ⟨_,W9 hz ho hx hy,zG fun e=>by obtain⟨c,rfl⟩:=hk8 e;subst e;exact ZZ _ _⟩
   split at h
   . rename_i hl;exact⟨_,h,fun g m ρ hρ hx hy=>key (SZ hρ hl hy) hx hy⟩
   . obtain⟨u,hu,h⟩:=aa.1 h
     exact⟨_,h,fun g m ρ hρ hx hy=>key (gi hu) hx hy⟩
 . split at h
   . cases h
   . rename_i hkk _
     subst hkk
     split at h
     iterate 6 (
      refine⟨_,h,fun g m ρ hρ hx hy=>⟨_,by simp[execOp,ho,hx,hy,binOp,Op.intCmp,eqGuard]<;>rfl,by simp only[VH,VE,VG,bM]⟩⟩)
     iterate 3 (
      refine⟨_,h,fun g m ρ hρ hx hy=>⟨_,by simp[execOp,ho,hx,hy,binOp,Op.intArith,eqGuard]<;>rfl,MP⟩⟩)
     iterate 4 (
      refine⟨_,h,fun g m ρ hρ hx hy=>⟨_,by simp[execOp,ho,hx,hy,binOp,Op.intBits,eqGuard,KX,Yl,PL,Nk],zG fun e=>by subst e;exact h8 ⟨_,rfl⟩⟩⟩)
     . have key:∀{g:GG S} {m:Mem} {ρ:Operand->Value},z≠0->ρ x=.int kv i->ρ y=.int kv z->Iw P K o (Xy kv (Int.tdiv i z)) (.int kv i) (.int kv z) ρ g m:=fun hz hx hy=>
        ⟨_,OL hz ho hx hy (.inl ⟨rfl,rfl⟩),MP⟩
       split at h
       . rename_i hl;exact⟨_,h,fun g m ρ hρ hx hy=>key (by have:=Ol hρ hl hy;omega) hx hy⟩
       . obtain⟨u,hu,h⟩:=aa.1 h
         exact⟨_,h,fun g m ρ hρ hx hy=>key (gi hu) hx hy⟩
     . have key:∀{g:GG S} {m:Mem} {ρ:Operand->Value},z≠0->ρ x=.int kv i->ρ y=.int kv z->Iw P K o (qL kv (Int.tmod i z)) (.int kv i) (.int kv z) ρ g m:=fun hz hx hy=>
        ⟨_,OL hz ho hx hy (.inr ⟨rfl,rfl⟩),zG fun e=>by obtain⟨c,rfl⟩:=hk8 e;exact ZY c z⟩
       split at h
       . rename_i hl;exact⟨_,h,fun g m ρ hρ hx hy=>key (by have:=Ol hρ hl hy;omega) hx hy⟩
       . obtain⟨u,hu,h⟩:=aa.1 h
         exact⟨_,h,fun g m ρ hρ hx hy=>key (gi hu) hx hy⟩
     . cases h
theorem iL{A B:CV S}(h:n9 op A B k=some r):(op=.eql/\k A=some r)\/(op=.neq/\k B=some r):=by
 unfold n9 at h;split at h
 . exact .inl ⟨rfl,h⟩
 . exact .inr ⟨rfl,h⟩
 . cases h
theorem BG{g:GG S}{m:Mem}{v:CV S}{b:Bool}{u:Value}(h:bit v=some b)(hv:bM K g m v [u]):u=.bool b:=by
 cases v<;>simp only[bit]at h<;>try(cases h;done)
 . cases h;simp only[bM]at hv;simpa using hv
 . cases h;simp only[bM]at hv;simpa using hv
variable {tt:TypeId->Option (TI S)}{a b:AV S}
theorem QA{t:TypeId}{u v:Array Value}{b:Bool}{w:World}(h:(binOp .eql t (.agg u) (.agg v)).run P w=.ok (.bool b) w):(binOp .neq t (.agg u) (.agg v)).run P w=.ok (.bool (!b)) w:=by
 simp only[binOp,Sem.run_bind,Sem.run_pure]at h ⊢
 cases he:(Op.equal t (.agg u) (.agg v)).run P w with
 |ok c w'=>rw[he]at h;simp only[Result.andThen_ok,Result.ok.injEq,Value.bool.injEq]at h;obtain⟨rfl,rfl⟩:=h;rfl
 |halt x w'=>rw[he]at h;simp[Result.andThen]at h
theorem Sg(hT:dx P K tt)(ho:o.op=.binOp op xT x y yT)(h:Yy tt op xT a b k=some r):
 ∃v,k v=some r/\∀(g:GG S) (m:Mem) (ρ:Operand->Value),bP K g m a (ρ x)->bP K g m b (ρ y)->∃u,(execOp ρ o).run P m.w=.ok (.value u) m.w/\bM K g m v [u]:=by
 unfold Yy at h
 obtain⟨ti,hti,h'⟩:=aa.1 h
 clear h;have h:=h';clear h'
 have hty:=hT.ty xT ti hti
 have htd:=hty.td
 split at h
 ·
  rename_i X Z hd
  have run:∀(g:GG S) (m:Mem) (ρ:Operand->Value),bP K g m (.one (.str X)) (ρ x)->bP K g m (.one (.str Z)) (ρ y)->(op=.eql->(execOp ρ o).run P m.w=.ok (.value (.bool (decide (X=Z)))) m.w)/\(op=.neq->(execOp ρ o).run P m.w=.ok (.value (.bool (!decide (X=Z)))) m.w):=by
   intro g m ρ hx hy;simp only[bP,bM]at hx hy;have hx:ρ x=.string (Proofs.YtjfkdglgecgjfaaGreat.str X):=by simpa using hx
   have hy:ρ y=.string (Proofs.YtjfkdglgecgjfaaGreat.str Z):=by simpa using hy
   constructor
   . rintro rfl;simp[execOp,ho,hx,hy,binOp,Op.stringOp,eqGuard]<;>(rw[Bool.eq_iff_iff];simp)
   . rintro rfl;simp[execOp,ho,hx,hy,binOp,Op.stringOp,eqGuard]<;>(rw[Bool.eq_iff_iff];simp)
  split at h
  . obtain⟨l,hl,h⟩:=aa.1 h
    refine⟨_,h,fun g m ρ hx hy=>?_⟩
    simp only[bP,bM]at hx hy
    have hx:ρ x=.string (Proofs.YtjfkdglgecgjfaaGreat.str X):=by simpa using hx
    have hy:ρ y=.string (Proofs.YtjfkdglgecgjfaaGreat.str Z):=by simpa using hy
    obtain⟨hfit,rfl⟩:=nT hl
    have hsz:¬ (((Proofs.YtjfkdglgecgjfaaGreat.str X).size+(Proofs.YtjfkdglgecgjfaaGreat.str Z).size:Nat):Int)>i64.max:=by
     have e1:(Proofs.YtjfkdglgecgjfaaGreat.str X).size=X.length:=by simp[ByteArray.size]
     have e2:(Proofs.YtjfkdglgecgjfaaGreat.str Z).size=Z.length:=by simp[ByteArray.size]
     have e3:i64.max=9223372036854775807:=rfl;rw[e1,e2,e3];omega
    have hap:Proofs.YtjfkdglgecgjfaaGreat.str X++Proofs.YtjfkdglgecgjfaaGreat.str Z=Proofs.YtjfkdglgecgjfaaGreat.str (X++Z):=by
     apply ByteArray.ext;rw[ByteArray.data_append];show X.toArray++Z.toArray=(X++Z).toArray;simp
    refine⟨.string (Proofs.YtjfkdglgecgjfaaGreat.str (X++Z)),?_,by simp only[bM]⟩
    simp only[execOp,ho,hx,hy,binOp,Op.stringOp,eqGuard,if_neg hsz,hap,Sem.run_bind,Sem.run_pure,Result.andThen_ok]
    simp
  . rcases iL h with⟨e,h⟩|⟨e,h⟩
    . exact⟨_,h,fun g m ρ hx hy=>⟨_,(run g m ρ hx hy).1 e,by simp only[VH,bM]⟩⟩
    . exact⟨_,h,fun g m ρ hx hy=>⟨_,(run g m ρ hx hy).2 e,by simp only[VF,bM]⟩⟩
 ·
  rename_i V W hd
  rw[hd]at htd
  obtain⟨bx,hbx,h⟩:=aa.1 h
  obtain⟨bz,hbz,h⟩:=aa.1 h
  have run:∀(g:GG S) (m:Mem) (ρ:Operand->Value),bP K g m (.one V) (ρ x)->bP K g m (.one W) (ρ y)->(op=.eql->(execOp ρ o).run P m.w=.ok (.value (.bool (bx == bz))) m.w)/\(op=.neq->(execOp ρ o).run P m.w=.ok (.value (.bool (!(bx == bz)))) m.w):=by
   intro g m ρ hx hy;simp only[bP]at hx hy;have hx:=BG hbx hx;have hy:=BG hbz hy;have he:(Op.equal xT (.bool bx) (.bool bz)).run P m.w=.ok (bx == bz) m.w:=by
    unfold Op.equal;rw[show Op.maxDepth=9999+1 from rfl];unfold Op.equalIn;simp[run_underlying htd]
   constructor
   . rintro rfl;simp[execOp,ho,hx,hy,binOp,eqGuard,he]
   . rintro rfl;simp[execOp,ho,hx,hy,binOp,eqGuard,he]
  rcases iL h with⟨e,h⟩|⟨e,h⟩
  . exact⟨_,h,fun g m ρ hx hy=>⟨_,(run g m ρ hx hy).1 e,by simp only[VE,bM]⟩⟩
  . exact⟨_,h,fun g m ρ hx hy=>⟨_,(run g m ρ hx hy).2 e,by simp only[VG,bM];rfl⟩⟩
 . rename_i e hd
   rw[hd]at htd
   have run:∀(g:GG S) (m:Mem) (ρ:Operand->Value),bP K g m (.one .kG) (ρ x)->bP K g m (.one .kG) (ρ y)->(op=.eql->(execOp ρ o).run P m.w=.ok (.value (.bool true)) m.w)/\(op=.neq->(execOp ρ o).run P m.w=.ok (.value (.bool false)) m.w):=by
    intro g m ρ hx hy;simp only[bP,bM]at hx hy;have hx:ρ x=.pointer none:=by simpa using hx
    have hy:ρ y=.pointer none:=by simpa using hy
    have he:(Op.equal xT (.pointer none) (.pointer none)).run P m.w=.ok true m.w:=by
     unfold Op.equal;rw[show Op.maxDepth=9999+1 from rfl];unfold Op.equalIn;simp[run_underlying htd]
    constructor
    . rintro rfl;simp[execOp,ho,hx,hy,binOp,eqGuard,he]
    . rintro rfl;simp[execOp,ho,hx,hy,binOp,eqGuard,he]
   rcases iL h with⟨e,h⟩|⟨e,h⟩
   . exact⟨_,h,fun g m ρ hx hy=>⟨_,(run g m ρ hx hy).1 e,by simp only[bM]⟩⟩
   . exact⟨_,h,fun g m ρ hx hy=>⟨_,(run g m ρ hx hy).2 e,by simp only[bM]⟩⟩
 . rename_i e q off hd
   rw[hd]at htd
   have run:∀(g:GG S) (m:Mem) (ρ:Operand->Value),bP K g m (.one (.ptr q off)) (ρ x)->bP K g m (.one .kG) (ρ y)->(op=.eql->(execOp ρ o).run P m.w=.ok (.value (.bool false)) m.w)/\(op=.neq->(execOp ρ o).run P m.w=.ok (.value (.bool true)) m.w):=by
    intro g m ρ hx hy;simp only[bP,bM]at hx hy;obtain⟨gh,b,_,_,hx⟩:=hx;have hx:ρ x=.pointer (some ⟨b,off,none⟩):=by simpa using hx
    have hy:ρ y=.pointer none:=by simpa using hy
    have he:(Op.equal xT (.pointer (some ⟨b,off,none⟩)) (.pointer none)).run P m.w=.ok false m.w:=by
     unfold Op.equal;rw[show Op.maxDepth=9999+1 from rfl];unfold Op.equalIn;simp[run_underlying htd]
    constructor
    . rintro rfl;simp[execOp,ho,hx,hy,binOp,eqGuard,he]
    . rintro rfl;simp[execOp,ho,hx,hy,binOp,eqGuard,he]
   rcases iL h with⟨e,h⟩|⟨e,h⟩
   . exact⟨_,h,fun g m ρ hx hy=>⟨_,(run g m ρ hx hy).1 e,by simp only[bM]⟩⟩
   . exact⟨_,h,fun g m ρ hx hy=>⟨_,(run g m ρ hx hy).2 e,by simp only[bM]⟩⟩
 . rename_i e q off hd
   rw[hd]at htd
   have run:∀(g:GG S) (m:Mem) (ρ:Operand->Value),bP K g m (.one .kG) (ρ x)->bP K g m (.one (.ptr q off)) (ρ y)->(op=.eql->(execOp ρ o).run P m.w=.ok (.value (.bool false)) m.w)/\(op=.neq->(execOp ρ o).run P m.w=.ok (.value (.bool true)) m.w):=by
    intro g m ρ hx hy;simp only[bP,bM]at hx hy;obtain⟨gh,b,_,_,hy⟩:=hy;have hy:ρ y=.pointer (some ⟨b,off,none⟩):=by simpa using hy
    have hx:ρ x=.pointer none:=by simpa using hx
    have he:(Op.equal xT (.pointer none) (.pointer (some ⟨b,off,none⟩))).run P m.w=.ok false m.w:=by
     unfold Op.equal;rw[show Op.maxDepth=9999+1 from rfl];unfold Op.equalIn;simp[run_underlying htd]
    constructor
    . rintro rfl;simp[execOp,ho,hx,hy,binOp,eqGuard,he]
    . rintro rfl;simp[execOp,ho,hx,hy,binOp,eqGuard,he]
   rcases iL h with⟨e,h⟩|⟨e,h⟩
   . exact⟨_,h,fun g m ρ hx hy=>⟨_,(run g m ρ hx hy).1 e,by simp only[bM]⟩⟩
   . exact⟨_,h,fun g m ρ hx hy=>⟨_,(run g m ρ hx hy).2 e,by simp only[bM]⟩⟩
 . rename_i hd
   rw[hd]at htd
   have hfd:∃d,P.underlying xT=some d/\rG d=true:=by
    cases hu:P.underlying xT with
    |none=>simp[Vo,hu]at htd
    |some d=>simp[Vo,hu]at htd;exact⟨d,rfl,htd⟩
   obtain⟨d,hu,hfd⟩:=hfd
   have run:∀(g:GG S) (m:Mem) (ρ:Operand->Value),bP K g m (.one .fB) (ρ x)->bP K g m (.one .fB) (ρ y)->(op=.eql->(execOp ρ o).run P m.w=.ok (.value (.bool true)) m.w)/\(op=.neq->(execOp ρ o).run P m.w=.ok (.value (.bool false)) m.w):=by
    intro g m ρ hx hy;simp only[bP,bM]at hx hy;have hx:ρ x=.nilFunc:=by simpa using hx
    have hy:ρ y=.nilFunc:=by simpa using hy
    have he:(Op.equal xT .nilFunc .nilFunc).run P m.w=.ok true m.w:=by
     cases d<;>simp only[rG,aH]at hfd;unfold Op.equal;rw[show Op.maxDepth=9999+1 from rfl];unfold Op.equalIn;simp[run_underlying hu]
    constructor
    . rintro rfl;simp[execOp,ho,hx,hy,binOp,eqGuard,he]
    . rintro rfl;simp[execOp,ho,hx,hy,binOp,eqGuard,he]
   rcases iL h with⟨e,h⟩|⟨e,h⟩
   . exact⟨_,h,fun g m ρ hx hy=>⟨_,(run g m ρ hx hy).1 e,by simp only[bM]⟩⟩
   . exact⟨_,h,fun g m ρ hx hy=>⟨_,(run g m ρ hx hy).2 e,by simp only[bM]⟩⟩
 . rename_i f fs cs hd
   rw[hd]at htd
   have hfd:∃d,P.underlying xT=some d/\rG d=true:=by
    cases hu:P.underlying xT with
    |none=>simp[Vo,hu]at htd
    |some d=>simp[Vo,hu]at htd;exact⟨d,rfl,htd⟩
   obtain⟨d,hu,hfd⟩:=hfd
   have run:∀(g:GG S) (m:Mem) (ρ:Operand->Value),bP K g m (.one (.fn f fs cs)) (ρ x)->bP K g m (.one .fB) (ρ y)->(op=.eql->(execOp ρ o).run P m.w=.ok (.value (.bool false)) m.w)/\(op=.neq->(execOp ρ o).run P m.w=.ok (.value (.bool true)) m.w):=by
    intro g m ρ hx hy;simp only[bP,bM]at hx hy;obtain⟨v1,v2,hx,_⟩:=hx;have hx:ρ x=.func f v1.toArray v2.toArray:=by simpa using hx
    have hy:ρ y=.nilFunc:=by simpa using hy
    have he:(Op.equal xT (.func f v1.toArray v2.toArray) .nilFunc).run P m.w=.ok false m.w:=by
     cases d<;>simp only[rG,aH]at hfd;unfold Op.equal;rw[show Op.maxDepth=9999+1 from rfl];unfold Op.equalIn;simp[run_underlying hu]
    constructor
    . rintro rfl;simp[execOp,ho,hx,hy,binOp,eqGuard,he]
    . rintro rfl;simp[execOp,ho,hx,hy,binOp,eqGuard,he]
   rcases iL h with⟨e,h⟩|⟨e,h⟩
   . exact⟨_,h,fun g m ρ hx hy=>⟨_,(run g m ρ hx hy).1 e,by simp only[bM]⟩⟩
   . exact⟨_,h,fun g m ρ hx hy=>⟨_,(run g m ρ hx hy).2 e,by simp only[bM]⟩⟩
 . rename_i e hd
   rw[hd]at htd
   have run:∀(g:GG S) (m:Mem) (ρ:Operand->Value),bP K g m (.one .fg) (ρ x)->bP K g m (.one .fg) (ρ y)->(op=.eql->(execOp ρ o).run P m.w=.ok (.value (.bool true)) m.w)/\(op=.neq->(execOp ρ o).run P m.w=.ok (.value (.bool false)) m.w):=by
    intro g m ρ hx hy;simp only[bP,bM]at hx hy;have hx:ρ x=.slice none 0 0:=by simpa using hx
    have hy:ρ y=.slice none 0 0:=by simpa using hy
    constructor
    . rintro rfl;simpa using zX (w:=m.w) ho hx hy htd
    . rintro rfl;simpa using zY (w:=m.w) ho hx hy htd
   rcases iL h with⟨e,h⟩|⟨e,h⟩
   . exact⟨_,h,fun g m ρ hx hy=>⟨_,(run g m ρ hx hy).1 e,by simp only[bM]⟩⟩
   . exact⟨_,h,fun g m ρ hx hy=>⟨_,(run g m ρ hx hy).2 e,by simp only[bM]⟩⟩
 . rename_i e c l hd
   rw[hd]at htd
   have run:∀(g:GG S) (m:Mem) (ρ:Operand->Value),bP K g m (.one (.sl c l)) (ρ x)->bP K g m (.one .fg) (ρ y)->∃b:Bool,(b=true->l.isEmpty=true)/\(op=.eql->(execOp ρ o).run P m.w=.ok (.value (.bool b)) m.w)/\(op=.neq->(execOp ρ o).run P m.w=.ok (.value (.bool (!b))) m.w):=by
    intro g m ρ hx hy;simp only[bP,bM]at hx hy;obtain⟨a,cap,hx,hE⟩:=hx;have hx:ρ x=.slice a l.length cap:=by simpa using hx
    have hy:ρ y=.slice none 0 0:=by simpa using hy
    refine⟨a.isNone,fun hi=>by rw[dM.Dc hE hi];rfl,?_,?_⟩
    . rintro rfl;exact zX (w:=m.w) ho hx hy htd
    . rintro rfl;exact zY (w:=m.w) ho hx hy htd
   rcases iL h with⟨e,h⟩|⟨e,h⟩
   . exact⟨_,h,fun g m ρ hx hy=>(let⟨b,k1,k2,k3⟩:=run g m ρ hx hy;⟨_,k2 e,by simp only[bM];exact⟨b,rfl,fun hb=>k1 (by cases b<;>simp_all)⟩⟩)⟩
   . exact⟨_,h,fun g m ρ hx hy=>(let⟨b,k1,k2,k3⟩:=run g m ρ hx hy;⟨_,k3 e,by simp only[bM];exact⟨!b,rfl,fun hb=>k1 (by cases b<;>simp_all)⟩⟩)⟩
 . rename_i e q c z l hd
   rw[hd]at htd
   have run:∀(g:GG S) (m:Mem) (ρ:Operand->Value),bP K g m (.one (.rw q c (z::l))) (ρ x)->bP K g m (.one .fg) (ρ y)->(op=.eql->(execOp ρ o).run P m.w=.ok (.value (.bool false)) m.w)/\(op=.neq->(execOp ρ o).run P m.w=.ok (.value (.bool true)) m.w):=by
    intro g m ρ hx hy;simp only[bP,bM]at hx hy;obtain⟨gh,l0,ad,_,hx,hE,_⟩:=hx;have hx:ρ x=.slice ad (z::l).length (gh.cap-l0.length):=by simpa using hx
    have hy:ρ y=.slice none 0 0:=by simpa using hy
    have hn:ad.isNone=false:=by
     cases hi:ad.isNone with
     |false=>rfl
     |true=>exact absurd (dM.Dc hE hi) (by simp)
    constructor
    . rintro rfl;rw[<- hn];exact zX (w:=m.w) ho hx hy htd
    . rintro rfl;rw[show true=!ad.isNone by rw[hn];rfl];exact zY (w:=m.w) ho hx hy htd
   rcases iL h with⟨e,h⟩|⟨e,h⟩
   . exact⟨_,h,fun g m ρ hx hy=>⟨_,(run g m ρ hx hy).1 e,by simp only[bM]⟩⟩
   . exact⟨_,h,fun g m ρ hx hy=>⟨_,(run g m ρ hx hy).2 e,by simp only[bM]⟩⟩
 . rename_i n e n1 F n2 F2 hd
   rw[hd]at htd
   obtain⟨ei,hei,h'⟩:=aa.1 h
   clear h;have h:=h';clear h'
   have hety:=hT.ty e ei hei
   split at h
   . rename_i hed hn
     simp only[al,Nat.beq_eq]at hn
     obtain⟨⟨⟨rfl,rfl⟩,rfl⟩,hqe⟩:=hn
     have hetd:=hety.td
     rw[hed]at hetd
     have hag:fD P e=some (false,1):=by
      have hi:=hety.info;have h1:=hety.one (by rw[hed];rfl);obtain⟨inf,hinf,_,hsz,_⟩:=info_parts hi;simp only[Vo]at hetd;simp[fD,hetd,hinf,vZ,hsz,h1]
     have run:∀(g:GG S) (m:Mem) (ρ:Operand->Value),bP K g m (.agg [.a8 32 F]) (ρ x)->bP K g m (.agg [.a8 32 F2]) (ρ y)->(op=.eql->(execOp ρ o).run P m.w=.ok (.value (.bool (tu F F2))) m.w)/\(op=.neq->(execOp ρ o).run P m.w=.ok (.value (.bool (!tu F F2))) m.w):=by
      intro g m ρ hx hy;simp only[bP]at hx hy;obtain⟨c1,hx,h1⟩:=hx;obtain⟨c2,hy,h2⟩:=hy;have h1:=mB h1;have h2:=mB h2;simp only[bM]at h1 h2;subst h1;subst h2;have hg:P.eqGuardType P.depth xT=false:=(hT.eq xT ti hti hqe).guard;constructor
      . rintro rfl;exact rZ ho hx hy hg (D0 htd hetd hag F F2)
      . rintro rfl;exact rZ ho hx hy hg (Mu htd hetd hag F F2)
     rcases iL h with⟨e,h⟩|⟨e,h⟩
     . exact⟨_,h,fun g m ρ hx hy=>⟨_,(run g m ρ hx hy).1 e,by simp only[VC,bM]⟩⟩
     . exact⟨_,h,fun g m ρ hx hy=>⟨_,(run g m ρ hx hy).2 e,by simp only[VF,bM]⟩⟩
   . cases h
 . rename_i fs vs ws hd
   split at h
   . rename_i heq
     simp only[al]at heq
     obtain⟨⟨heq,hkv⟩,hkw⟩:=heq
     obtain⟨p,hp,h'⟩:=aa.1 h
     clear h;have h:=h';clear h'
     have hE:=hT.eq xT ti hti heq
     have run:∀(g:GG S) (m:Mem) (ρ:Operand->Value),bP K g m (.agg vs) (ρ x)->bP K g m (.agg ws) (ρ y)->(op=.eql->(execOp ρ o).run P m.w=.ok (.value (.bool (@decide p.1 p.2))) m.w)/\(op=.neq->(execOp ρ o).run P m.w=.ok (.value (.bool (!@decide p.1 p.2))) m.w):=by
      intro g m ρ hx hy;simp only[bP]at hx hy;obtain⟨c1,hx,h1⟩:=hx;obtain⟨c2,hy,h2⟩:=hy;have he:=hE.eql g m vs ws p c1 c2 m.w hkv hkw hp h1 h2;constructor
      . rintro rfl;exact rZ ho hx hy hE.guard he
      . rintro rfl;exact rZ ho hx hy hE.guard (QA he)
     rcases iL h with⟨e,h⟩|⟨e,h⟩
     . exact⟨_,h,fun g m ρ hx hy=>⟨_,(run g m ρ hx hy).1 e,by simp only[VH,bM]⟩⟩
     . exact⟨_,h,fun g m ρ hx hy=>⟨_,(run g m ρ hx hy).2 e,by simp only[VF,bM]⟩⟩
   . cases h
 . cases h
end
end E
end
section
open Go.RowKit G
namespace E
variable {S:Nat->Type}{tb:Tb S}{K:ep tb}{P:Program}{o:Oper}{xs:List (AV S)}{ob:List (Nat×Nat×AO S)}{ct:Nat}{γ:Type}{k:ia S->Option γ}{r:γ}{tt:TypeId->Option (TI S)}
theorem dW{g:GG S}{m:Mem}{a:Act}{x:Operand}{v:AV S}(h:oT K g m a [x] [v]):bP K g m v (a.eval x):=by
 obtain⟨w,r,e,h1,_⟩:=h;cases e;exact h1
theorem eo{g:GG S}{m:Mem}{a:Act}{x y:Operand}{v w:AV S}(h:oT K g m a [x,y] [v,w]):bP K g m v (a.eval x)/\bP K g m w (a.eval y):=by
 obtain⟨u,r,e,h1,h2⟩:=h;cases e;exact⟨h1,dW h2⟩
theorem tF{g:GG S}{m:Mem}{a:Act}{x y z:Operand}{v w u:AV S}(h:oT K g m a [x,y,z] [v,w,u]):bP K g m v (a.eval x)/\bP K g m w (a.eval y)/\bP K g m u (a.eval z):=by
 obtain⟨t,r,e,h1,h2⟩:=h;cases e;exact⟨h1,eo h2⟩
theorem eC{v:AV S}(h:∀g a m,oT K g m a o.op.operands.toList xs->∃u,(execOp a.eval o).run P m.w=.ok (.value u) m.w/\bP K g m v u):sL P K o xs ob ct {v:=v}:=
 sL.pure rfl rfl rfl fun g a m ha=>by obtain⟨u,h1,h2⟩:=h g a m ha;exact bI.val h1 ⟨rfl,h2⟩
abbrev dT(P:Program)(K:ep tb)(o:Oper)(xs:List (AV S))(ob:List (Nat×Nat×AO S))(ct:Nat)(k:ia S->Option γ)(r:γ):Prop:=∃res,k res=some r/\sL P K o xs ob ct res
theorem xZ{x:Operand}(ho:o.op=.move x\/o.op=.assign x){v:AV S}(h:k {v:=v}=some r):dT P K o [v] ob ct k r:=
 ⟨_,h,eC fun g a m ha=>by
  have:o.op.operands.toList=[x]:=by rcases ho with ho|ho<;>rw[ho]<;>rfl
  rw[this]at ha;exact⟨a.eval x,by rcases ho with ho|ho<;>simp[execOp,ho],dW ha⟩⟩
theorem Y5{c:CV S}{f:Bool->Option γ}(h:Y4 c f=some r):∃b,bit c=some b/\f b=some r:=by
 unfold Y4 at h;split at h
 . exact⟨_,rfl,h⟩
 . rename_i b p d hbp;split at h
   . rename_i hp;exact⟨true,by simp only[bit];rw[hbp.2 hp],h⟩
   . rename_i hp;have:b=false:=by cases hb:b with|false=>rfl|true=>exact absurd (hbp.1 hb) hp
     exact⟨false,by simp only[bit];rw[this],h⟩
 . cases h
theorem Hn{x y z:Operand}(ho:o.op=.pick x y z){c:CV S}{v w:AV S}(h:Y4 c (fun b=>match b with|true=>k {v:=v}|false=>k {v:=w})=some r):dT P K o [.one c,v,w] ob ct k r:=by
 obtain⟨b,hb,h⟩:=Y5 h
 cases b with
 |true=>exact⟨_,h,eC fun g a m ha=>by
  rw[ho]at ha;obtain⟨h1,h2,h3⟩:=tF ha;simp only[bP]at h1;have:=BG hb h1;exact⟨a.eval y,by simp[execOp,ho,this,asBool],h2⟩⟩
 |false=>exact⟨_,h,eC fun g a m ha=>by
  rw[ho]at ha;obtain⟨h1,h2,h3⟩:=tF ha;simp only[bP]at h1;have:=BG hb h1;exact⟨a.eval z,by simp[execOp,ho,this,asBool],h3⟩⟩
theorem Nj{g:GG S}{m:Mem}:∀{vs:List (AV S)} {l:List Value} {i:Nat} {v:AV S},db K g m vs l->vs[i]?=some v->∃x,l[i]?=some x/\bP K g m v x
 |[],_,_,_,_,h=>by simp at h
 |w::vs,l,i,v,hl,h=>by
  simp only[db]at hl;obtain⟨x,r,rfl,h1,h2⟩:=hl
  cases i with
  |zero=>simp at h;subst h;exact⟨x,rfl,h1⟩
  |succ i=>simpa using Nj h2 (by simpa using h)
theorem wg{x:Operand}{i:Nat}(ho:o.op=.extract x i){vs:List (AV S)}(h:(vs[i]?).bind (fun a=>k {v:=a})=some r):dT P K o [.dD vs] ob ct k r:=by
 obtain⟨v,hv,h⟩:=aa.1 h;refine⟨_,h,eC fun g a m ha=>?_⟩;rw[ho]at ha;have h1:=dW ha;simp only[bP]at h1;obtain⟨l,h1,h2⟩:=h1;obtain⟨u,h3,h4⟩:=Nj h2 hv;exact⟨u,by simp[execOp,ho,h1,Instr.extract,h3],h4⟩
theorem tD{x:Operand}(ho:o.op=.nilCheck x){v:CV S}(h:(match v with| .ptr _ _=>k (val v)| .fn (.func _) _ _=>k (val v)| .el _ _ _=>k (val v)| .KG _ _ _ _ _ _=>k (val v)|_=>none)=some r):dT P K o [.one v] ob ct k r:=by
 have fin:k (val v)=some r->(∀g m w,bM K g m v [w]->(∃a,w=.pointer (some a))\/∃f x y,w=.func (.func f) x y)->dT P K o [.one v] ob ct k r:=fun hk hp=>
  ⟨_,hk,eC fun g a m ha=>by
   rw[ho]at ha;have h1:=dW ha;simp only[bP]at h1;refine⟨a.eval x,?_,by simp only[bP];exact h1⟩;rcases hp g m _ h1 with⟨ad,e⟩|⟨f,y,z,e⟩<;>simp[execOp,ho,e]⟩
 split at h
 . exact fin h fun g m w hw=>by simp only[bM]at hw;obtain⟨gh,b,_,_,e⟩:=hw;exact .inl ⟨_,by simpa using e⟩
 . exact fin h fun g m w hw=>by simp only[bM]at hw;obtain⟨v1,v2,e,_⟩:=hw;exact .inr ⟨_,_,_,by simpa using e⟩
 . exact fin h fun g m w hw=>by simp only[bM]at hw;obtain⟨b,p,ecs,e,_⟩:=hw;exact .inl ⟨_,by simpa using e⟩
 . exact fin h fun g m w hw=>by simp only[bM]at hw;obtain⟨gh,b,p,e',f,l,en,_,_,e,_⟩:=hw;exact .inl ⟨_,by simpa using e⟩
 . cases h
theorem Z1{op:UnOp}{v:CV S}(h:Z0 op v k=some r):(op=.not/\((∃b,v=.tt b/\k (val (.tt !b))=some r)\/∃b p d hb,v=.bo b p d hb/\k (val (VF b))=some r))\/(op=.not/\∃e n,v=.na e n/\k (val (.na e !n))=some r)\/(op=.neg/\∃kk x,v=.int kk x/\k (val (.int kk (kk.wrap (-x))))=some r)\/(op=.xor/\∃kk x,v=.int kk x/\k (val (.int kk (PL kk (if kk.signed then -1 else kk.max) x)))=some r):=by
 unfold Z0 at h;split at h
 . exact .inl ⟨rfl,.inl ⟨_,rfl,h⟩⟩
 . exact .inl ⟨rfl,.inr ⟨_,_,_,_,rfl,h⟩⟩
 . exact .inr (.inl ⟨rfl,_,_,rfl,h⟩)
 . exact .inr (.inr (.inl ⟨rfl,_,_,rfl,h⟩))
 . exact .inr (.inr (.inr ⟨rfl,_,_,rfl,h⟩))
 . cases h
theorem abp{x:Operand}{op:UnOp}{t:TypeId}(ho:o.op=.unOp op t x){v:CV S}(h:Z0 op v k=some r):dT P K o [.one v] ob ct k r:=by
 rcases Z1 h with⟨rfl,⟨b,rfl,h⟩|⟨b,p,d,hb,rfl,h⟩⟩|⟨rfl,e,n,rfl,h⟩|⟨rfl,kk,i,rfl,h⟩|⟨rfl,kk,i,rfl,h⟩
 . refine⟨_,h,eC fun g a m ha=>?_⟩;rw[ho]at ha;have h1:=dW ha;simp only[bP,bM]at h1;have h1:a.eval x=.bool b:=by simpa using h1
   exact⟨.bool !b,by simp[execOp,ho,h1,Op.unary],by simp only[bP,bM]⟩
 . refine⟨_,h,eC fun g a m ha=>?_⟩;rw[ho]at ha;have h1:=dW ha;simp only[bP,bM]at h1;have h1:a.eval x=.bool b:=by simpa using h1
   exact⟨.bool !b,by simp[execOp,ho,h1,Op.unary],by simp only[bP,VF,bM]⟩
 . refine⟨_,h,eC fun g a m ha=>?_⟩;rw[ho]at ha;have h1:=dW ha;simp only[bP,bM]at h1;obtain⟨b,h1,hb⟩:=h1;have h1:a.eval x=.bool b:=by simpa using h1
   exact⟨.bool !b,by simp[execOp,ho,h1,Op.unary],by simp only[bP,bM];exact⟨!b,rfl,fun h2=>hb fun e=>h2 (by rw[e])⟩⟩
 . refine⟨_,h,eC fun g a m ha=>?_⟩;rw[ho]at ha;have h1:=dW ha;simp only[bP,bM]at h1;have h1:a.eval x=.int kk i:=by simpa using h1
   exact⟨.int kk (kk.wrap (-i)),by simp[execOp,ho,h1,Op.unary,Op.intArith],by simp only[bP,bM]⟩
 . refine⟨_,h,eC fun g a m ha=>?_⟩;rw[ho]at ha;have h1:=dW ha;simp only[bP,bM]at h1;have h1:a.eval x=.int kk i:=by simpa using h1
   exact⟨.int kk (PL kk (if kk.signed then -1 else kk.max) i),by simp[execOp,ho,h1,Op.unary,Op.intBits,PL],by simp only[bP,bM]⟩
theorem Zs(hT:dx P K tt){x y:Operand}{op:BinOp}{t t':TypeId}(ho:o.op=.binOp op t x y t'){a b:AV S}(h:PJ tt op t y a b (fun v=>k (val v))=some r):dT P K o [a,b] ob ct k r:=by
 have fin:∀{v:CV S},k (val v)=some r->(∀(g:GG S) (m:Mem) (c:Act),bP K g m a (c.eval x)->bP K g m b (c.eval y)->∃u,(execOp c.eval o).run P m.w=.ok (.value u) m.w/\bM K g m v [u])->dT P K o [a,b] ob ct k r:=fun hk hv=>
  ⟨_,hk,eC fun g c m ha=>by
   rw[ho]at ha;obtain⟨h1,h2⟩:=eo ha;obtain⟨u,h3,h4⟩:=hv g m c h1 h2;exact⟨u,h3,by simp only[bP];exact h4⟩⟩
 unfold PJ at h;split at h
 . split at h
   . rename_i v w _ _ kv i kw z hn1 hn2;obtain⟨u,hu,hv⟩:=WK (P:=P) (K:=K) (o:=o) ho (fun e=>by
      cases v<;>simp only[num]at hn1<;>try(cases hn1;done)
      . split at hn1
        . cases hn1
        . rename_i hk;cases hn1;exact absurd e hk
      . cases hn1;exact⟨_,rfl⟩) h
     refine fin hu fun g m c h1 h2=>?_
     simp only[bP]at h1 h2;have e1:=(rP hn1 h1).1;have e2:=(rP hn2 h2).1;exact hv g m c.eval (fun _=>rfl) e1 e2
   . obtain⟨u,hu,hv⟩:=Sg hT ho h;exact fin hu fun g m c h1 h2=>hv g m c.eval h1 h2
 . obtain⟨u,hu,hv⟩:=Sg hT ho h;exact fin hu fun g m c h1 h2=>hv g m c.eval h1 h2
theorem ED.gH{t:TypeId}{i:TI S}(h:ED P t i):∃d,P.underlying t=some d:=by
 have:=h.td
 cases hu:P.underlying t with
 |some d=>exact⟨d,rfl⟩
 |none=>cases hd:i.d<;>simp[hd,Vo,hu,UG]at this
theorem ED.agg{t:TypeId}{i:TI S}(h:ED P t i):fD P t=some (fu i.d,i.size):=by
 obtain⟨inf,h1,_,h3,_⟩:=info_parts h.info;have htd:=h.td;obtain⟨d,hu⟩:=h.gH;unfold fD;rw[hu,h1];simp only[h3,af,aA,and_true];cases hd:i.d<;>simp only[hd,Vo]at htd<;>try(rw[hu]at htd;cases htd;rfl)
 . obtain⟨fields,hs,_⟩:=yz htd;rw[hu]at hs;cases hs;rfl
 . rw[hu]at htd;cases d<;>simp[rG]at htd;rfl
 . rw[hu]at htd;simp at htd;rw[htd];rfl
theorem DA(hT:dx P K tt){x:Operand}{t:TypeId}{i:Nat}(ho:o.op=.field t x i){vs:List (CV S)}{ti fi:TI S}{fs:List (TypeId×Nat×Nat)}{f:TypeId×Nat×Nat}(hti:tt t=some ti)(hd:ti.d=.struct fs)(hf:fs[i]?=some f)(hfi:tt f.1=some fi)
 (h:(match fu fi.d with
  |true=>((cutAt f.2.1 vs).bind (qx fi.size)).bind fun l=>k {v:=.agg l}
  |false=>(ta f.2.1 vs).bind fun v=>k (val v))=some r):dT P K o [.agg vs] ob ct k r:=by
 have htd:=(hT.ty t ti hti).td
 rw[hd]at htd
 obtain⟨fields,hu,hfs⟩:=yz htd
 obtain⟨fl,inf,h1,h2,h3,h4,h5⟩:=Al hfs hf
 have h1:fields[i]?=some fl:=by simpa using h1
 have hag:=(hT.ty f.1 fi hfi).agg
 obtain⟨d',i',hu',hi',hd',hs'⟩:=js hag
 split at h
 . rename_i hA
   obtain⟨l,hl,h⟩:=aa.1 h
   obtain⟨l',hl',hl⟩:=aa.1 hl
   refine⟨_,h,eC fun g a m ha=>?_⟩
   rw[ho]at ha
   have hv:=dW ha
   simp only[bP]at hv
   obtain⟨cs,hx,hcs⟩:=hv
   obtain⟨k1,k2⟩:=qw hl' hcs
   obtain⟨k3,k4⟩:=tf hl k1
   refine⟨.agg (cs.toArray.extract f.2.1 (f.2.1+fi.size)),?_,?_⟩
   . have hb:(isAgg f.1).run P m.w=.ok true m.w:=by rw[kW hu',hd',hA]
     simp[execOp,ho,hx,Instr.field,run_underlying hu,h1,asAgg,part,h2,h3,hb,sizeOf,typeInfo,hi',hs']
   . simp only[bP]
     refine⟨(cs.drop f.2.1).take fi.size,?_,k3⟩
     congr 1
     simp[List.extract_eq_take_drop]
 . rename_i hA
   obtain⟨v,hv',h⟩:=aa.1 h
   refine⟨_,h,eC fun g a m ha=>?_⟩
   rw[ho]at ha
   have hv:=dW ha
   simp only[bP]at hv
   obtain⟨cs,hx,hcs⟩:=hv
   obtain⟨u,k1,k2⟩:=w8 hv' hcs
   refine⟨u,?_,by simp only[val,bP];exact k2⟩
   have hb:(isAgg f.1).run P m.w=.ok false m.w:=by rw[kW hu',hd',hA]
   simp[execOp,ho,hx,Instr.field,run_underlying hu,h1,asAgg,part,h2,h3,hb,k1]
theorem p8(hT:dx P K tt){x:Operand}{t:TypeId}{i:Nat}(ho:o.op=.fieldAddr t x i){ti:TI S}{fs:List (TypeId×Nat×Nat)}{f:TypeId×Nat×Nat}(hti:tt t=some ti)(hd:ti.d=.struct fs)(hf:fs[i]?=some f)(h1:1<=f.2.2){a:Act}{w:World}{b q:Nat}(hx:a.eval x=.pointer (some ⟨b,q,none⟩)):
 (execOp a.eval o).run P w=.ok (.value (.pointer (some ⟨b,q+f.2.1,none⟩))) w:=by
 have htd:=(hT.ty t ti hti).td
 rw[hd]at htd
 obtain⟨fields,hu,hfs⟩:=yz htd
 obtain⟨fl,inf,k1,k2,k3,k4,k5⟩:=Al hfs hf
 have k1:fields[i]?=some fl:=by simpa using k1
 have hne:¬ f.2.2=0:=by omega
 simp[execOp,ho,hx,Instr.fieldAt,run_underlying hu,k1,Instr.sureAddr,fieldPlace,k2,k3,sizeOf,typeInfo,k4,k5,hne,Addr.add_mid]
theorem P8{f:TypeId×Nat×Nat}{v:CV S}(h:vX f v k=some r):1<=f.2.2/\((∃q off,v=.ptr q off/\k (val (.ptr q (off+f.2.1)))=some r)\/(∃c x off,v=.el c x off/\k (val (.el c x (off+f.2.1)))=some r)\/∃q u c x j off,v=.KG q u c x j off/\k (val (.KG q u c x j (off+f.2.1)))=some r):=by
 unfold vX at h;split at h
 . rename_i hn;exact⟨aj hn,.inl ⟨_,_,rfl,h⟩⟩
 . rename_i hn;exact⟨aj hn,.inr (.inl ⟨_,_,_,rfl,h⟩)⟩
 . rename_i hn;exact⟨aj hn,.inr (.inr ⟨_,_,_,_,_,_,rfl,h⟩)⟩
 . cases h
theorem rQ(hT:dx P K tt){x:Operand}{t:TypeId}{i:Nat}(ho:o.op=.fieldAddr t x i){v:CV S}{ti:TI S}{fs:List (TypeId×Nat×Nat)}{f:TypeId×Nat×Nat}(hti:tt t=some ti)(hd:ti.d=.struct fs)(hf:fs[i]?=some f)(h:vX f v k=some r):dT P K o [.one v] ob ct k r:=by
 obtain⟨h1,⟨q,off,rfl,hk⟩|⟨c,y,off,rfl,hk⟩|⟨q,u,c,y,j,off,rfl,hk⟩⟩:=P8 h
 . refine⟨_,hk,eC fun g a m ha=>?_⟩;rw[ho]at ha;have hv:=dW ha;simp only[bP,bM]at hv;obtain⟨gh,b,k1,k2,k3⟩:=hv;have hx:a.eval x=.pointer (some ⟨b,off,none⟩):=by simpa using k3
   exact⟨_,p8 hT ho hti hd hf h1 hx,by simp only[bP,bM];exact⟨gh,b,k1,k2,rfl⟩⟩
 . refine⟨_,hk,eC fun g a m ha=>?_⟩;rw[ho]at ha;have hv:=dW ha;simp only[bP,bM]at hv;obtain⟨b,p,ecs,k1,k2,k3⟩:=hv;have hx:a.eval x=.pointer (some ⟨b,p+off,none⟩):=by simpa using k1
   exact⟨_,p8 hT ho hti hd hf h1 hx,by simp only[bP,bM];exact⟨b,p,ecs,by rw[Nat.add_assoc],k2,k3⟩⟩
 . refine⟨_,hk,eC fun g a m ha=>?_⟩;rw[ho]at ha;have hv:=dW ha;simp only[bP,bM]at hv;obtain⟨gh,b,p,e,f',l,en,k1,k2,k3,k4,k5⟩:=hv;have hx:a.eval x=.pointer (some ⟨b,p+off,none⟩):=by simpa using k3
   exact⟨_,p8 hT ho hti hd hf h1 hx,by simp only[bP,bM];exact⟨gh,b,p,e,f',l,en,k1,k2,by rw[Nat.add_assoc],k4,k5⟩⟩
theorem dA{g:GG S}{m:Mem}{q v:Nat}{ao:AO S}{L:List bR}(h:eW K g m (pick ob [q]) L)(hl:look q ob=some (v,ao)):∃e,L=[e]/\g.oo v=some (ao,e)/\iY K g m q ao e:=by
 simp only[pick,hl,eW]at h;obtain⟨e,L',rfl,h1,h2,rfl⟩:=h;exact⟨e,rfl,h1,h2⟩
theorem yg{x:Operand}{s d:TypeId}(ho:o.op=.convert s d x){a:Act}{w:World}{ds:TypeDesc}{kd k0:IntKind}{n:Int}(hs:P.underlying s=some ds)(hd:P.underlying d=some (.int kd))(hx:a.eval x=.int k0 n):(execOp a.eval o).run P w=.ok (.value (.int kd (kd.wrap n))) w:=by
 simp[execOp,ho,hx,convert,run_underlying hs,run_underlying hd,Conv.intToInt]
theorem WM(hT:dx P K tt){x:Operand}{s d:TypeId}(ho:o.op=.convert s d x){v:CV S}(h:E7 tt s d v ob k=some r):dT P K o [.one v] ob ct k r:=by
 unfold E7 at h;obtain⟨si,hsi,h'⟩:=aa.1 h;clear h;have h:=h';clear h';obtain⟨di,hdi,h'⟩:=aa.1 h;clear h;have h:=h';clear h';have hsT:=hT.ty s si hsi;have hdT:=(hT.ty d di hdi).td;obtain⟨ds,hds⟩:=hsT.gH;split at h
 . rename_i k0 n kd hd;rw[hd]at hdT;refine⟨_,h,eC fun g a m ha=>?_⟩;rw[ho]at ha;have hv:=dW ha;simp only[bP,bM]at hv;have hx:a.eval x=.int k0 n:=by simpa using hv
   exact⟨_,yg ho hds hdT hx,by simp only[val,bP];exact MP⟩
 . rename_i c hd;rw[hd]at hdT;refine⟨_,h,eC fun g a m ha=>?_⟩;rw[ho]at ha;have hv:=dW ha;simp only[bP,bM]at hv;have hx:a.eval x=.int .u8 (c.toNat:Int):=by simpa using hv
   exact⟨_,yg ho hds hdT hx,by simp only[val,bP,bM,Yq]⟩
 . rename_i c hd;rw[hd]at hdT;refine⟨_,h,eC fun g a m ha=>?_⟩;rw[ho]at ha;have hv:=dW ha;simp only[bP,bM]at hv;have hx:a.eval x=.int .u8 (c.toNat:Int):=by simpa using hv
   exact⟨_,yg ho hds hdT hx,by simp only[val,bP,bM]⟩
 . rename_i c kd hn1 hn2 hd;rw[hd]at hdT;refine⟨_,h,eC fun g a m ha=>?_⟩;rw[ho]at ha;have hv:=dW ha;simp only[bP,bM]at hv;have hx:a.eval x=.int .u8 (c.toNat:Int):=by simpa using hv
   have hk:(kd == .i8)=false:=by cases kd<;>first|rfl|exact absurd rfl hn2
   exact⟨_,yg ho hds hdT hx,by simp only[val,bP,bM,XI hk]⟩
 . rename_i l hd;rw[hd]at hdT;split at h
   . rename_i hs;have hs':=hsT.td;rw[hs]at hs';refine⟨_,h,eC fun g a m ha=>?_⟩;rw[ho]at ha;have hv:=dW ha;have hv2:=hv;simp only[bP,bM]at hv;have hx:a.eval x=.string (Proofs.YtjfkdglgecgjfaaGreat.str l):=by simpa using hv
     exact⟨a.eval x,by simp[execOp,ho,hx,convert,run_underlying (show P.underlying s=some .string from hs'),run_underlying (show P.underlying d=some .string from hdT)],hv2⟩
   . cases h
 . rename_i hne hd;rw[hd]at hdT;split at h
   . rename_i e hs hc;have hs':=hsT.td;rw[hs]at hs';obtain⟨ei,hei,h'⟩:=aa.1 h;clear h;have h:=h';clear h';have heT:=(hT.ty e ei hei).td;split at h
     . rename_i hed;rw[hed]at heT;obtain⟨l,hl,h'⟩:=aa.1 h;clear h;have h:=h';clear h';refine⟨_,h,eC fun g a m ha=>?_⟩;rw[ho]at ha;have hv:=dW ha;simp only[bP]at hv;obtain⟨ad,n,hx,hE⟩:=mg hl hv;exact⟨_,QC ho hx hs' heT hdT hE,by simp only[val,bP,bM]⟩
     . cases h
   . cases h
 . rename_i q c y l e hd;rw[hd]at hdT;split at h
   . rename_i hsd;have hsd:=ah hsd;subst hsd;obtain⟨ei,hei,h'⟩:=aa.1 h;clear h;have h:=h';clear h';obtain⟨⟨ver,ao⟩,hq,h'⟩:=aa.1 h;clear h;have h:=h';clear h';have heT:=(hT.ty e ei hei).td;split at h
     . rename_i e' c' hed hao;simp only at hao;subst hao;rw[hed]at heT;refine⟨_,h,by simp,fun g a m Lr Lm hf _ ha hr hm hO=>?_⟩;simp only[pick,eW]at hr;subst hr;obtain⟨en,rfl,hoo,gh',hb',rfl⟩:=dA hm hq;rw[ho]at ha;have hv:=dW ha;simp only[bP,bM]at hv;obtain⟨gh,l0,ad,k1,k2,hEl,k3,k4,k5⟩:=hv;rw[k1]at hb';have:=ax hb';subst this;obtain⟨bb,hbb⟩:∃b,gh.g=some b:=by
        cases hg:gh.g with
        |some b=>exact⟨b,rfl⟩
        |none=>rw[hg]at k3;exact absurd (dM.xX k3) (by simp)
       have hcap:(l0++y::l).length<=gh.cap:=k3.sC.2.2;obtain⟨o0,ho0⟩:∃o0,ad=some ⟨bb,o0,none⟩:=by
        rw[k5 (by simp at hcap;omega),hbb];unfold dG;split
        . exact⟨0,rfl⟩
        . exact⟨0+l0.length*zK K c,by simp only[fP,ak,Addr.add_mid]⟩
       rw[ho0]at k2 hEl;have hx:a.eval x=.slice (some ⟨bb,o0,none⟩) (y::l).length (gh.cap-l0.length):=by simpa using k2
       have hS:=St.refl hO;rw[aO]at hS;have hx':gV (SQ a [x]) x=some (.slice (some ⟨bb,o0,none⟩) (y::l).length (gh.cap-l0.length)):=by rw[bQ a [x] (by simp),hx]
       refine D1 (K:=SQ a [x]) (B:=_) (m0:=m) (L:=[]) (da a _) (by rw[hbb]at hS;exact hS) ho hx' hdT heT fun m' hle hS'=>⟨m',g,[],rfl,?_,GE.refl g,rfl,rfl,fun i h=>absurd rfl h,rfl,?_⟩
       . rw[hbb];simpa using hS'
       . simp only[bP,bM];exact⟨_,_,rfl,hEl.mono (cF K c) hle⟩
     . cases h
   . cases h
 . cases h
end E
end
end Go.Proofs.YtjfkdglgecgjfaaGreat
