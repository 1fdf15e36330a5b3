/- Part of the proof. -/
import Derived.Test.YtjfkdglgecgjfaaGreatZET
import Derived.Great.FillDense
namespace Go.Proofs.YtjfkdglgecgjfaaGreat
open Go.ChangeShapes Go.WideShapes Go.ChangeAt Go.RowKit G
namespace E
set_option maxRecDepth 100000 in
theorem acn{H:Type}{enc:TypeId×Value->H}{W:World}{base:Nat}{spare:Nat->Bool}{held:Bool}:AE enc Tryz.prog W base spare held (RK KT (.st 5)) bH.Ok 50:=by
 intro fuel cs x h;obtain⟨xs,n,_,_,hl,hlen,hf⟩:=DataW.trod_struct Tryz.underlying50 h;have hl':cs.length=5:=hl.trans (by kernel_rfl)
 match xs,hlen with
 |[y0,y1,y2,y3,y4],_=>
  have z0:Tryz.prog.cellsOf 3=1:=by kernel_rfl
  have h0:DataW.trod enc Tryz.prog W base spare held n 3 ((cs.drop 0).take (Tryz.prog.cellsOf 3))=some y0:=hf 0 _ rfl
  rw[z0]at h0
  obtain⟨_,v0,r0,k0⟩:=(nM Tryz.underlying3 (by kernel_rfl)) n _ y0 h0
  have z1:Tryz.prog.cellsOf 3=1:=by kernel_rfl
  have h1:DataW.trod enc Tryz.prog W base spare held n 3 ((cs.drop 1).take (Tryz.prog.cellsOf 3))=some y1:=hf 1 _ rfl
  rw[z1]at h1
  obtain⟨_,v1,r1,k1⟩:=(nM Tryz.underlying3 (by kernel_rfl)) n _ y1 h1
  have z2:Tryz.prog.cellsOf 3=1:=by kernel_rfl
  have h2:DataW.trod enc Tryz.prog W base spare held n 3 ((cs.drop 2).take (Tryz.prog.cellsOf 3))=some y2:=hf 2 _ rfl
  rw[z2]at h2
  obtain⟨_,v2,r2,k2⟩:=(nM Tryz.underlying3 (by kernel_rfl)) n _ y2 h2
  have z3:Tryz.prog.cellsOf 3=1:=by kernel_rfl
  have h3:DataW.trod enc Tryz.prog W base spare held n 3 ((cs.drop 3).take (Tryz.prog.cellsOf 3))=some y3:=hf 3 _ rfl
  rw[z3]at h3
  obtain⟨_,v3,r3,k3⟩:=(nM Tryz.underlying3 (by kernel_rfl)) n _ y3 h3
  have z4:Tryz.prog.cellsOf 38=1:=by kernel_rfl
  have h4:DataW.trod enc Tryz.prog W base spare held n 38 ((cs.drop 4).take (Tryz.prog.cellsOf 38))=some y4:=hf 4 _ rfl
  rw[z4]at h4
  obtain⟨_,v4,r4,k4⟩:=(D6 (sz:=zK KT .u8) Tryz.underlying38 (by kernel_rfl) (by kernel_rfl) (aj (by kernel_rfl)) (yu Tryz.underlying5 (by kernel_rfl))) n _ y4 h4
  exact⟨hl,(⟨v0,v1,v2,v3,v4⟩:bH),(KT.spec 5 (Mem.all W) (⟨v0,v1,v2,v3,v4⟩:bH) cs).2 ⟨_,_,j0 cs 0 1 1 rfl,r0,_,_,j0 cs 1 1 2 rfl,r1,_,_,j0 cs 2 1 3 rfl,r2,_,_,j0 cs 3 1 4 rfl,r3,_,_,j0 cs 4 1 5 rfl,r4,NB cs 5 hl'⟩,⟨(QW k0),(QW k1),(QW k2),(QW k3),k4.1⟩⟩
set_option maxRecDepth 100000 in
theorem acm{H:Type}{enc:TypeId×Value->H}{W:World}{base:Nat}{spare:Nat->Bool}{held:Bool}:AE enc Tryz.prog W base spare held (RK KT (.st 6)) bV.Ok 37:=by
 intro fuel cs x h;obtain⟨xs,n,_,_,hl,hlen,hf⟩:=DataW.trod_struct Tryz.underlying37 h;have hl':cs.length=67:=hl.trans (by kernel_rfl)
 match xs,hlen with
 |[y0,y1,y2,y3,y4],_=>
  have z0:Tryz.prog.cellsOf 3=1:=by kernel_rfl
  have h0:DataW.trod enc Tryz.prog W base spare held n 3 ((cs.drop 0).take (Tryz.prog.cellsOf 3))=some y0:=hf 0 _ rfl
  rw[z0]at h0
  obtain⟨_,v0,r0,k0⟩:=(nM Tryz.underlying3 (by kernel_rfl)) n _ y0 h0
  have z1:Tryz.prog.cellsOf 3=1:=by kernel_rfl
  have h1:DataW.trod enc Tryz.prog W base spare held n 3 ((cs.drop 1).take (Tryz.prog.cellsOf 3))=some y1:=hf 1 _ rfl
  rw[z1]at h1
  obtain⟨_,v1,r1,k1⟩:=(nM Tryz.underlying3 (by kernel_rfl)) n _ y1 h1
  have z2:Tryz.prog.cellsOf 34=32:=by kernel_rfl
  have h2:DataW.trod enc Tryz.prog W base spare held n 34 ((cs.drop 2).take (Tryz.prog.cellsOf 34))=some y2:=hf 2 _ rfl
  rw[z2]at h2
  obtain⟨_,v2,r2,k2⟩:=(Cl (n:=32) Tryz.underlying34 Tryz.underlying5 (by kernel_rfl) (by kernel_rfl) (by decide)) n _ y2 h2
  have z3:Tryz.prog.cellsOf 34=32:=by kernel_rfl
  have h3:DataW.trod enc Tryz.prog W base spare held n 34 ((cs.drop 34).take (Tryz.prog.cellsOf 34))=some y3:=hf 3 _ rfl
  rw[z3]at h3
  obtain⟨_,v3,r3,k3⟩:=(Cl (n:=32) Tryz.underlying34 Tryz.underlying5 (by kernel_rfl) (by kernel_rfl) (by decide)) n _ y3 h3
  have z4:Tryz.prog.cellsOf 35=1:=by kernel_rfl
  have h4:DataW.trod enc Tryz.prog W base spare held n 35 ((cs.drop 66).take (Tryz.prog.cellsOf 35))=some y4:=hf 4 _ rfl
  rw[z4]at h4
  obtain⟨_,v4,r4,k4⟩:=(D6 (sz:=zK KT (.st 5)) Tryz.underlying35 (by kernel_rfl) (by kernel_rfl) (aj (by kernel_rfl)) acn) n _ y4 h4
  exact⟨hl,(⟨v0,v1,v2,v3,v4⟩:bV),(KT.spec 6 (Mem.all W) (⟨v0,v1,v2,v3,v4⟩:bV) cs).2 ⟨_,_,j0 cs 0 1 1 rfl,r0,_,_,j0 cs 1 1 2 rfl,r1,_,_,j0 cs 2 32 34 rfl,r2,_,_,j0 cs 34 32 66 rfl,r3,_,_,j0 cs 66 1 67 rfl,r4,NB cs 67 hl'⟩,⟨(QW k0),(QW k1),⟨k4.1,fun y hy=>(k4.2 y hy)⟩⟩⟩
end E
end Go.Proofs.YtjfkdglgecgjfaaGreat
namespace Go.Proofs.YtjfkdglgecgjfaaGreat.R
open Go.RowKit
noncomputable section
inductive Tr(α:Type) where
 |nil
 |nd (v:Option α) (a b c d:Tr α)
 deriving Inhabited
inductive Nb where
 |e
 |a (q:Nb)
 |b (q:Nb)
 |c (q:Nb)
 |d (q:Nb)
def Ht:Nat->Nat->Nb
 |0,_=>.e
 |f+1,n=>match Nat.beq n 0 with
  |true=>.e
  |false=>match Nat.mod n 4 with
   |1=>.a (Ht f (Nat.div n 4))
   |2=>.b (Ht f (Nat.div n 4))
   |3=>.c (Ht f (Nat.div n 4))
   |_=>.d (Ht f (Nat.div n 4-1))
def A1(n:Nat):Nb:=Ht (n+1) n
def rB{α:Type}(q:Nb):Tr α->Option α:=Nb.rec (motive:=fun _=>Tr α->Option α)
 (fun t=>Tr.rec (motive:=fun _=>Option α) none (fun v _ _ _ _ _ _ _ _=>v) t)
 (fun _ ih t=>Tr.rec (motive:=fun _=>Option α) none (fun _ a _ _ _ _ _ _ _=>ih a) t)
 (fun _ ih t=>Tr.rec (motive:=fun _=>Option α) none (fun _ _ b _ _ _ _ _ _=>ih b) t)
 (fun _ ih t=>Tr.rec (motive:=fun _=>Option α) none (fun _ _ _ c _ _ _ _ _=>ih c) t)
 (fun _ ih t=>Tr.rec (motive:=fun _=>Option α) none (fun _ _ _ _ d _ _ _ _=>ih d) t) q
def EX{α:Type}(q:Nb):Option α->Tr α->Tr α:=Nb.rec (motive:=fun _=>Option α->Tr α->Tr α)
 (fun x t=>Tr.rec (motive:=fun _=>Tr α) (.nd x .nil .nil .nil .nil) (fun _ a b c d _ _ _ _=>.nd x a b c d) t)
 (fun _ ih x t=>Tr.rec (motive:=fun _=>Tr α) (.nd none (ih x .nil) .nil .nil .nil) (fun v a b c d _ _ _ _=>.nd v (ih x a) b c d) t)
 (fun _ ih x t=>Tr.rec (motive:=fun _=>Tr α) (.nd none .nil (ih x .nil) .nil .nil) (fun v a b c d _ _ _ _=>.nd v a (ih x b) c d) t)
 (fun _ ih x t=>Tr.rec (motive:=fun _=>Tr α) (.nd none .nil .nil (ih x .nil) .nil) (fun v a b c d _ _ _ _=>.nd v a b (ih x c) d) t)
 (fun _ ih x t=>Tr.rec (motive:=fun _=>Tr α) (.nd none .nil .nil .nil (ih x .nil)) (fun v a b c d _ _ _ _=>.nd v a b c (ih x d)) t) q
def Tr.get{α:Type}(t:Tr α)(n:Nat):Option α:=rB (A1 n) t
def Tr.put{α:Type}(t:Tr α)(n:Nat)(x:Option α):Tr α:=EX (A1 n) x t
inductive AV where
 |p (v:Value)
 |ptr (o f:Nat)
 |sl (o f n:Nat) (c:Option Nat) (z:Nat)
 |mp (o:Nat)
 |fn (f:Fn) (a c:List AV)
 |yl (o:Nat)
 |rE (t:TypeId) (v:AV)
 |agg (l:List AV)
 |dD (l:List AV)
 deriving Inhabited
structure Loc where
 b:Nat
 i:Nat
 n:Nat
abbrev lP:=Nat->Option Loc
def addr(l:Loc)(f:Nat):Addr:=⟨l.b,l.i+f,none⟩
def dZ(l:Loc)(f z:Nat):Option Nat->Nat
 |some c=>c
 |none=>(l.n-f)/z
mutual
def conv(ρ:lP):AV->Option Value
 |.p v=>some v
 |.ptr o f=>(ρ o).map fun l=>.pointer (some (addr l f))
 |.sl o f n c z=>(ρ o).map fun l=>.slice (some (addr l f)) n (dZ l f z c)
 |.mp o=>(ρ o).map fun l=>.map (some l.b)
 |.fn f a c=>(bX ρ a).bind fun a=>(bX ρ c).map fun c=>.func f a.toArray c.toArray
 |.yl o=>(ρ o).map fun l=>.func (.yield l.b) #[] #[]
 |.rE t v=>(conv ρ v).map (.iface t)
 |.agg l=>(bX ρ l).map fun l=>.agg l.toArray
 |.dD l=>(bX ρ l).map fun l=>.tuple l.toArray
def bX(ρ:lP):List AV->Option (List Value)
 |[]=>some []
 |x::l=>(conv ρ x).bind fun v=>(bX ρ l).map (v:: ·)
end
def E5:Value->AV
 |.agg cs=>.agg (cs.toList.map .p)
 |.tuple cs=>.dD (cs.toList.map .p)
 |.func f a c=>.fn f (a.toList.map .p) (c.toList.map .p)
 |.iface t v=>.rE t (.p v)
 |v=>.p v
def jS:AV->List AV
 |.agg l=>l
 |.p (.agg cs)=>cs.toList.map .p
 |x=>[x]
def AL:AV->Bool
 |.agg _| .dD _| .p (.agg _)| .p (.tuple _)=>false
 |_=>true
def toV(x:AV):Option Value:=conv (fun _=>none) x
inductive AO where
 |cells (l:List AV) (T:TypeId)
 |map (es:List (AV×AV×Nat)) (clock:Nat)
 |sD (m since:Nat) (seen:List Nat) (step:Nat)
 |X3 (s:ByteArray) (pos:Nat)
 |loop (st:LoopState) (pe:Option Code) (fn:FuncId) (n:Nat) (K:Tr AV) (ps:Array Tmp) (fC body:Code) (ds:Nat)
 |XL (t:Bool)
 deriving Inhabited
structure HS where
 H:Tr AO
 nx:Nat
 deriving Inhabited
def HS.set(h:HS)(o:Nat)(x:AO):HS:={h with H:=h.H.put o (some x)}
def HS.kill(h:HS)(o:Nat):HS:={h with H:=h.H.put o none}
def HS.add(h:HS)(x:AO):HS:={H:=h.H.put h.nx (some x),nx:=h.nx+1}
inductive AD where
 |call (f:Fn) (cap args:List AV)
 |RU (o:Nat)
 deriving Inhabited
inductive AR where
 |val (v:AV)
 |new (x:AO) (mk:Nat->AV)
 |la (v:AV) (h:HS)
 |many (l:List (AV×HS))
 |enter (f:FuncId) (args:List AV)
 |round (o:Nat) (args:List AV)
 |defer (d:AD)
 |panic (v:AV)
 |recover
def eB(K:Tr AV):Operand->Option AV
 |.tmp t=>K.get t
 |.const v=>some (E5 v)
 |.global g=>some (.p (.pointer (some ⟨g,0,none⟩)))
 |.func f=>some (.fn (.func f) [] [])
def P4(K:Tr AV):List Operand->Option (List AV)
 |[]=>some []
 |x::xs=>(eB K x).bind fun v=>(P4 K xs).map (v:: ·)
def cw{α:Type}(P:Program):Sem α->Option α
 |.pure a=>some a
 |.program k=>cw P (k P)
 |.mark _ k=>cw P k
 |_=>none
def KF(K:Tr AV)(x:Operand):Option Value:=(eB K x).bind toV
def gH:AV:=.dD []
def DP(P:Program)(K:Tr AV)(o:Oper):Option AR:=
 match(match o.op with| .select _ _=>false|_=>true)&&o.op.operands.toList.all fun x=>(KF K x).isSome with
 |false=>none
 |true=>match cw P (execOp (fun x=>(KF K x).getD undef) o)with
  |some (.value v)=>some (.val (E5 v))
  |some (.enter f args)=>some (.enter f (args.toList.map E5))
  |_=>none
def wb:AV->Option Nat
 |.p (.int _ i)=>match decide (0<=i)with|true=>some i.toNat|false=>none
 |_=>none
def dG(l:List AV)(f s:Nat):Option (List AV):=
 match Nat.beq ((l.drop f).take s).length s with|true=>some ((l.drop f).take s)|false=>none
def ya(P:Program)(t:TypeId)(l:List AV)(f:Nat):Option AV:=
 (fD P t).bind fun q=>match q.1 with
 |true=>(dG l f q.2).map .agg
 |false=>l[f]?
def cellsOf(h:HS)(o:Nat):Option (List AV×TypeId):=(h.H.get o).bind fun x=>match x with| .cells l T=>some (l,T)|_=>none
def xp(l:List AV)(f:Nat)(cs:List AV):Option (List AV):=
 match Nat.ble (f+cs.length) l.length&&cs.all AL with
 |true=>some (l.take f++cs++l.drop (f+cs.length))
 |false=>none
def CW(place:Nat->Option (Nat×Nat)):List AV->List (Nat×AV)->Option (List AV)
 |l,[]=>some l
 |l,(i,v)::rest=>(place i).bind fun q=>match Nat.beq (jS v).length q.2 with
  |true=>(xp l q.1 (jS v)).bind fun l=>CW place l rest
  |false=>none
def uh(P:Program)(t:TypeId):Option (Array Value):=(P.info? t).bind fun i=>i.zero.map (·.cells)
def Ax(z:Array Value)(n:Nat):List AV:=(List.range n).map fun i=>.p (z[i % z.size]!)
def tI(K:Tr AV):List (Nat×Operand)->Option (List (Nat×AV))
 |[]=>some []
 |(i,x)::l=>(eB K x).bind fun v=>(tI K l).map ((i,v):: ·)
def yc(P:Program):List Field->Option (List (Nat×Nat))
 |[]=>some []
 |f::fs=>(P.info? f.type).bind fun i=>(yc P fs).map ((f.offset,i.size):: ·)
def K4(P:Program)(t:TypeId)(ps:List (Nat×AV)):Option AR:=
 (uh P t).bind fun z=>match P.underlying t with
 |some (.struct fs)=>(yc P fs.toList).bind fun pl=>(CW (fun i=>pl[i]?) (z.toList.map .p) ps).map fun l=>.val (.agg l)
 |some (.array _ e)=>(P.info? e).bind fun i=>(CW (fun j=>some (j*i.size,i.size)) (z.toList.map .p) ps).map fun l=>.val (.agg l)
 |_=>none
def sR(P:Program)(t:TypeId)(len:Nat)(ps:List (Nat×AV)):Option AR:=
 match P.underlying t with
 |some (.slice e)=>(P.info? e).bind fun i=>(uh P e).bind fun z=>match Nat.ble (len*i.size) 16777216&&Nat.ble 1 i.size with
  |true=>(CW (fun j=>some (j*i.size,i.size)) (Ax z (len*i.size)) ps).map fun l=>.new (.cells l e) fun n=>.sl n 0 len (some len) i.size
  |false=>none
 |_=>none
def Ei(P:Program)(h:HS)(t:TypeId)(a v:AV):Option AR:=match a with
 |.ptr o f=>(cellsOf h o).bind fun c=>(P.info? t).bind fun i=>match Nat.beq (jS v).length i.size with
  |true=>(xp c.1 f (jS v)).map fun l=>.la gH (h.set o (.cells l c.2))
  |false=>none
 |_=>none
def Dk(P:Program)(h:HS)(t:TypeId)(a:AV):Option AV:=match a with
 |.ptr o f=>(cellsOf h o).bind fun c=>ya P t c.1 f
 |_=>none
def Fg(P:Program)(t:TypeId):Option (TypeId×TypeInfo):=match P.underlying t with
 |some (.slice e)=>(P.info? e).map fun i=>(e,i)
 |_=>none
def rq(P:Program)(t:TypeId)(a:AV)(i:Nat):Option AR:=match a,P.underlying t with
 |.ptr o f,some (.struct fs)=>(fs[i]?).bind fun fl=>(P.info? fl.type).bind fun inf=>match Nat.beq inf.size 0 with
  |false=>some (.val (.ptr o (f+fl.offset)))
  |true=>none
 |_,_=>none
def rF(P:Program)(t:TypeId)(a ix:AV):Option AR:=(wb ix).bind fun i=>match a,P.underlying t with
 |.ptr o f,some (.array n e)=>(P.info? e).bind fun inf=>match Nat.ble (i+1) n with
  |true=>some (.val (.ptr o (f+i*inf.size)))
  |false=>none
 |.sl o f n _ _,some (.slice e)=>(P.info? e).bind fun inf=>match Nat.ble (i+1) n with
  |true=>some (.val (.ptr o (f+i*inf.size)))
  |false=>none
 |_,_=>none
def EV(K:Tr AV)(d:Nat):Option Operand->Option Nat
 |none=>some d
 |some x=>(eB K x).bind wb
def R7(o f lo hi m z:Nat):Option AR:=match Nat.ble lo hi&&Nat.ble hi m with
 |true=>some (.val (match Nat.beq m lo with|true=>.sl o f (hi-lo) (some (m-lo)) z|false=>.sl o (f+lo*z) (hi-lo) (some (m-lo)) z))
 |false=>none
def aar(hi mx:Option Operand):Bool:=match hi,mx with|none,some _=>false|_,_=>true
def MG(P:Program)(h:HS)(K:Tr AV)(t:TypeId)(x:AV)(lo hi mx:Option Operand):Option AR:=match aar hi mx with
 |false=>none
 |true=>match x,P.underlying t with
  |.ptr o f,some (.array n e)=>(P.info? e).bind fun inf=>(EV K 0 lo).bind fun l=>(EV K n hi).bind fun hh=>(EV K n mx).bind fun m=>match Nat.ble m n with
   |true=>R7 o f l hh m inf.size
   |false=>none
  |.sl o f n c z,some (.slice e)=>(P.info? e).bind fun inf=>match Nat.beq inf.size z&&Nat.ble 1 z with
   |false=>none
   |true=>(EV K 0 lo).bind fun l=>(EV K n hi).bind fun hh=>match c with
    |some cc=>(EV K cc mx).bind fun m=>match Nat.ble m cc with|true=>R7 o f l hh m z|false=>none
    |none=>(cellsOf h o).bind fun cs=>match mx with
     |some mo=>(EV K 0 (some mo)).bind fun m=>match Nat.ble (f+m*z) cs.1.length with|true=>R7 o f l hh m z|false=>none
     |none=>match Nat.ble l hh&&Nat.ble (f+hh*z) cs.1.length with
      |false=>none
      |true=>match Nat.beq l 0||Nat.ble (f+(l+1)*z) cs.1.length with
       |true=>some (.val (.sl o (f+l*z) (hh-l) none z))
       |false=>match Nat.beq hh l with
        |true=>some (.la (.sl h.nx 0 0 none z) ((h.kill o).add (.cells [] cs.2)))
        |false=>none
  |_,_=>none
def tL(h:HS)(z:Nat)(n:Nat):AV->Option (List AV)
 |.sl o f _ _ _=>(cellsOf h o).bind fun c=>dG c.1 f (n*z)
 |.p (.slice none 0 0)=>some []
 |.p (.string s)=>some ((s.extract 0 n).data.toList.map fun b=>.p (.int .u8 b.toNat))
 |_=>none
def JD:AV->Option Nat
 |.sl _ _ n _ _=>some n
 |.p (.slice none 0 0)=>some 0
 |.p (.string s)=>some s.size
 |_=>none
def RB(h:HS)(e:TypeId)(z bytes:Nat)(s:AV)(xs:List AV)(k:Nat):Option AR:=
 match s with
 |.p (.slice none 0 0)=>match Nat.beq k 0 with
  |true=>some (.val s)
  |false=>match Nat.ble (k*bytes) 140737488355328 with
   |true=>some (.la (.sl h.nx 0 (0+k) none z) (h.add (.cells ([]++xs) e)))
   |false=>none
 |.sl o f n c z'=>(cellsOf h o).bind fun cs=>match Nat.beq z' z&&Nat.ble ((n+k)*bytes) 140737488355328 with
  |false=>none
  |true=>match(match c with|some cc=>Nat.ble (n+k) cc|none=>Nat.ble (f+(n+k)*z) cs.1.length)with
   |true=>(xp cs.1 (f+n*z) xs).map fun l=>.la (.sl o f (n+k) c z) (h.set o (.cells l cs.2))
   |false=>(dG cs.1 f (n*z)).bind fun old=>match c with
    |some _=>some (.la (.sl h.nx 0 (n+k) none z) (h.add (.cells (old++xs) e)))
    |none=>match Nat.beq cs.2 e&&Nat.ble f cs.1.length with
     |true=>some (.la (.sl h.nx 0 (n+k) none z) ((h.kill o).add (.cells (old++xs) e)))
     |false=>none
 |_=>none
def Gg(P:Program)(h:HS)(ats:List TypeId)(args:List AV):Option AR:=match ats,args with
 |[t,t2],[s,x]=>(Fg P t).bind fun ei=>(uh P ei.1).bind fun zc=>match Nat.ble 1 ei.2.size&&Nat.ble 1 ei.2.bytes&&Nat.beq zc.size ei.2.size with
  |false=>none
  |true=>match P.underlying t2 with
   |some (.int _)=>(wb x).bind fun k=>match Nat.ble (k*ei.2.bytes) 140737488355328&&(Ax zc (k*zc.size)).all AL with
    |true=>RB h ei.1 ei.2.size ei.2.bytes s (Ax zc (k*zc.size)) k
    |false=>none
   |some (.slice _)|some .string=>(JD x).bind fun k=>(tL h ei.2.size k x).bind fun xs=>match Nat.beq xs.length (k*ei.2.size)&&xs.all AL with
    |true=>RB h ei.1 ei.2.size ei.2.bytes s xs k
    |false=>none
   |_=>none
 |_,_=>none
def EO(n:Nat):AV:=.p (.int .i64 n)
def R3(P:Program)(h:HS)(ats:List TypeId)(args:List AV):Option AR:=match ats,args with
 |t::_,[d,x]=>(Fg P t).bind fun ei=>(JD d).bind fun n=>(JD x).bind fun k=>(tL h ei.2.size (Nat.min k n) x).bind fun xs=>match Nat.beq xs.length (Nat.min k n*ei.2.size)with
  |false=>none
  |true=>match d with
   |.sl o f _ _ _=>(cellsOf h o).bind fun c=>(xp c.1 f xs).map fun l=>.la (EO (Nat.min k n)) (h.set o (.cells l c.2))
   |.p (.slice none 0 0)=>some (.val (EO 0))
   |_=>none
 |_,_=>none
def Jv:List (AV×AV×Nat)->Option (List MapEntry)
 |[]=>some []
 |(k,_,b)::es=>(toV k).bind fun k=>(Jv es).map (⟨k,undef,b⟩:: ·)
def mapOf(h:HS)(o:Nat):Option (List (AV×AV×Nat)×Nat):=(h.H.get o).bind fun x=>match x with| .map es c=>some (es,c)|_=>none
def Fk(P:Program)(kt:TypeId)(k:Value)(em:Bool)(es:List (AV×AV×Nat)):Option (Option Nat):=
 (cw P (Instr.checkKey em 10000 kt k)).bind fun _=>(Jv es).bind fun l=>(cw P (Instr.findKey kt k l)).map fun r=>r.map (·.1)
def jB(P:Program)(t:TypeId):Option (TypeId×TypeId):=match P.underlying t with|some (.map k e)=>some (k,e)|_=>none
def G9(P:Program)(h:HS)(t:TypeId)(m k:AV)(ok:Bool):Option AR:=match m with
 |.mp o=>(mapOf h o).bind fun mm=>(toV k).bind fun kv=>(jB P t).bind fun ty=>(Fk P ty.1 kv mm.1.isEmpty mm.1).bind fun r=>
  (match r with
   |some i=>(mm.1[i]?).map fun e=>(e.2.1,true)
   |none=>((P.info? ty.2).bind (·.zero)).map fun z=>(E5 z,false):Option (AV×Bool)).map fun q=>
   match ok with
   |true=>.val (.dD [q.1,.p (.bool q.2)])
   |false=>.val q.1
 |_=>none
def Ob(es:List (AV×AV×Nat))(i:Nat)(k:Value):Bool:=match es[i]? with
 |some e=>(match toV e.1 with|some k0=>Instr.sameBits 10000 k0 k|none=>false)
 |none=>false
def xL(P:Program)(h:HS)(t:TypeId)(m k v:AV):Option AR:=match m with
 |.mp o=>(mapOf h o).bind fun mm=>(toV k).bind fun kv=>(jB P t).bind fun ty=>(Fk P ty.1 kv false mm.1).bind fun r=>match r with
  |some i=>match Ob mm.1 i kv with
   |true=>some (.la gH (h.set o (.map (mm.1.modify i fun e=>(E5 kv,v,e.2.2)) mm.2)))
   |false=>none
  |none=>some (.la gH (h.set o (.map (mm.1++[(E5 kv,v,mm.2)]) (mm.2+1))))
 |_=>none
def Ha(P:Program)(h:HS)(t:TypeId)(m k:AV):Option AR:=match m with
 |.mp o=>(mapOf h o).bind fun mm=>(toV k).bind fun kv=>(jB P t).bind fun ty=>(Fk P ty.1 kv false mm.1).bind fun r=>match r with
  |some i=>match Ob mm.1 i kv,mm.1[i]? with
   |true,some e=>some (.la (.dD [e.2.1,EO e.2.2]) (h.set o (.map (mm.1.modify i fun e=>(E5 kv,e.2.1,e.2.2)) mm.2)))
   |_,_=>none
  |none=>((P.info? ty.2).bind (·.zero)).map fun z=>.la (.dD [E5 z,EO mm.2]) (h.set o (.map (mm.1++[(E5 kv,E5 z,mm.2)]) (mm.2+1)))
 |_=>none
def Ll(h:HS)(m st v:AV):Option AR:=match m with
 |.mp o=>(mapOf h o).bind fun mm=>(wb st).bind fun n=>(mm.1.findIdx? fun e=>Nat.beq e.2.2 n).map fun i=>.la gH (h.set o (.map (mm.1.modify i fun e=>(e.1,v,e.2.2)) mm.2))
 |_=>none
def GH(P:Program)(h:HS)(t:TypeId)(m k:AV):Option AR:=match m with
 |.mp o=>(mapOf h o).bind fun mm=>(toV k).bind fun kv=>(jB P t).bind fun ty=>(Fk P ty.1 kv mm.1.isEmpty mm.1).map fun r=>match r with
  |some i=>.la gH (h.set o (.map (mm.1.eraseIdx i) mm.2))
  |none=>.la gH h
 |_=>none
def Ld(P:Program)(h:HS)(t:TypeId)(x:AV):Option AR:=match x with
 |.mp o=>(mapOf h o).bind fun mm=>(jB P t).map fun _=>.la gH (h.set o (.map [] mm.2))
 |.sl o f n _ _=>(Fg P t).bind fun ei=>(uh P ei.1).bind fun zc=>(cellsOf h o).bind fun c=>match Nat.ble 1 n with
  |true=>(xp c.1 f (Ax zc (n*zc.size))).map fun l=>.la gH (h.set o (.cells l c.2))
  |false=>none
 |_=>none
def Mn(P:Program)(h:HS)(t:TypeId)(x:AV):Option AR:=match x,P.underlying t with
 |.mp o,some (.map _ _)=>(mapOf h o).map fun mm=>.new (.sD o mm.2 [] mm.2) fun n=>.ptr n 0
 |.p (.string s),some .string=>some (.new (.X3 s 0) fun n=>.ptr n 0)
 |_,_=>none
def xH(es:List (AV×AV×Nat))(seen:List Nat):List (AV×AV×Nat):=es.filter fun e=>!seen.any fun b=>Nat.beq e.2.2 b
def Tc(h:HS)(it:AV)(str:Bool):Option AR:=match it with
 |.ptr r 0=>(h.H.get r).bind fun(x:AO)=>match x,str with
  |.X3 s pos,true=>match Nat.blt pos s.size with
   |true=>some (.la (.dD [.p (.bool true),EO pos,.p (.int .i32 (Utf8.decode s pos).1)]) (h.set r (.X3 s (pos+(Utf8.decode s pos).2))))
   |false=>some (.la (.dD [.p (.bool false)]) h)
  |.sD o since seen last,false=>(mapOf h o).bind fun(mm:List (AV×AV×Nat)×Nat)=>
   match !seen.isEmpty&&!mm.1.isEmpty&&mm.1.all (fun e=>Nat.ble last e.2.2)with
   |true=>none
   |false=>
    match(xH mm.1 seen).all fun e=>Nat.ble (e.2.2+1) since with
    |false=>none
    |true=>match(xH mm.1 seen).isEmpty with
     |true=>some (.la (.dD [.p (.bool false)]) h)
     |false=>some (.many ((xH mm.1 seen).map fun e=>(.dD [.p (.bool true),e.1,e.2.1],h.set r (.sD o since (seen++[e.2.2]) mm.2))))
  |_,_=>none
 |_=>none
def Lo(h:HS)(it:AV):Option AR:=match it with
 |.ptr r 0=>(h.H.get r).bind fun x=>match x with
  |.sD o _ seen step=>(mapOf h o).bind fun(mm:List (AV×AV×Nat)×Nat)=>match Nat.beq mm.2 step,seen.getLast? with
   |true,some st=>(mm.1.find? fun e=>Nat.beq e.2.2 st).map fun e=>.val (.dD [e.1,e.2.1])
   |_,_=>none
  |_=>none
 |_=>none
def Yw(P:Program)(t:TypeId):AV->AV->Option Bool
 |.ptr _ _,.p (.pointer none)| .p (.pointer none),.ptr _ _=>match P.underlying t with|some (.pointer _)=>some false|_=>none
 |.sl _ _ _ _ _,.p (.slice none _ _)| .p (.slice none _ _),.sl _ _ _ _ _=>match P.underlying t with|some (.slice _)=>some false|_=>none
 |.mp _,.p (.map none)| .p (.map none),.mp _=>match P.underlying t with|some (.map _ _)=>some false|_=>none
 |.fn _ _ _,.p .nilFunc| .p .nilFunc,.fn _ _ _| .yl _,.p .nilFunc| .p .nilFunc,.yl _=>match P.underlying t with|some (.func _ _ _)=>some false|_=>none
 |.rE _ _,.p .nilIface| .p .nilIface,.rE _ _=>match P.underlying t with|some (.interface _)=>some false|_=>none
 |_,_=>none
def Us:List AV->Option (List Int)
 |[]=>some []
 |.p (.int .u8 n)::l=>(Us l).map (n:: ·)
 |_=>none
def xc(P:Program)(h:HS)(s d:TypeId)(x:AV):Option AR:=match x,P.underlying s,P.underlying d with
 |.sl _ _ n _ z,some (.slice e),some .string=>match P.underlying e,Nat.beq z 1 with
  |some (.int .u8),true=>(tL h 1 n x).bind fun l=>(Us l).map fun s=>.val (.p (.string ⟨(s.map fun n=>UInt8.ofNat n.toNat).toArray⟩))
  |_,_=>none
 |.sl o f n c z,_,some (.slice e)=>match Nat.beq s d,P.underlying e with
  |true,some (.int .u8)=>some (.val (.sl o f n c z))
  |_,_=>none
 |.p (.string s),some _,some (.slice e)=>match P.underlying e with
  |some (.int .u8)=>some (.new (.cells (s.data.toList.map fun b=>.p (.int .u8 b.toNat)) e) fun n=>.sl n 0 s.size none 1)
  |_=>none
 |_,_,_=>none
def v7(P:Program)(t:TypeId)(l c:AV):Option AR:=(Fg P t).bind fun ei=>(wb l).bind fun l=>(wb c).bind fun c=>(uh P ei.1).bind fun zc=>
 match Nat.ble l c&&Nat.ble (c*ei.2.bytes) 281474976710656&&Nat.ble c 4294967296&&Nat.beq zc.size ei.2.size&&Nat.ble 1 ei.2.size with
 |true=>some (.new (.cells (Ax zc (c*ei.2.size)) ei.1) fun n=>.sl n 0 l (some c) ei.2.size)
 |false=>none
def pc(P:Program)(f:FuncId):Bool:=match P.funcs[f]? with
 |some fn=>!(fn.name == "runtime.NumGoroutine")&&fn.body.isSome
 |none=>false
def wU(P:Program)(h:HS)(b:Builtin)(ats:List TypeId)(args:List AV):Option AR:=match b with
 |.append=>Gg P h ats args
 |.copy=>R3 P h ats args
 |.len=>match ats,args with
  |t::_,[.sl _ _ n _ _]=>(match P.underlying t with|some (.slice _)=>some (.val (EO n))|_=>none)
  |t::_,[.mp o]=>(match P.underlying t with|some (.map _ _)=>(mapOf h o).map fun mm=>.val (EO mm.1.length)|_=>none)
  |_,_=>none
 |.cap=>match ats,args with
  |t::_,[.sl _ _ _ (some c) _]=>(match P.underlying t with|some (.slice _)=>some (.val (EO c))|_=>none)
  |_,_=>none
 |.clear=>match ats,args with
  |t::_,[x]=>Ld P h t x
  |_,_=>none
 |.delete=>match ats,args with
  |t::_,[m,k]=>GH P h t m k
  |_,_=>none
 |_=>none
def isRec:Builtin->Bool
 |.recover=>true
 |_=>false
def S2(P:Program)(t:TypeId)(name:String):Option FuncId:=(P.info? t).bind fun i=>(i.methods.find? (·.name == name)).bind fun m=>match m.path.toList,m.func,P.underlying t with
 |[],some (_,false),some (.pointer _)=>none
 |[],some (f,false),some _=>some f
 |_,_,_=>none
def IY(P:Program)(h:HS)(K:Tr AV)(c:Call):Option AR:=(P4 K c.args.toList).bind fun args=>match c.callee with
 |.value f=>(eB K f).bind fun v=>match v with
  |.fn (.func g) first caps=>(match pc P g with|true=>some (.enter g (first++args++caps))|false=>none)
  |.yl o=>some (.round o args)
  |_=>none
 |.builtin b=>match isRec b with
  |true=>some .recover
  |false=>wU P h b c.argTypes.toList args
 |.invoke x name=>(eB K x).bind fun v=>match v with
  |.rE t v=>(S2 P t name).bind fun g=>(match pc P g with|true=>some (.enter g (v::args))|false=>none)
  |_=>none
def GV(P:Program)(t:TypeId)(v:AV)(i:Nat):Option AR:=match v,P.underlying t with
 |.agg l,some (.struct fs)=>(fs[i]?).bind fun f=>(ya P f.type l f.offset).map .val
 |_,_=>none
def G2(P:Program)(t:TypeId)(x ix:AV):Option AR:=(wb ix).bind fun i=>match x,P.underlying t with
 |.agg l,some (.array n e)=>(P.info? e).bind fun inf=>match Nat.ble (i+1) n with
  |true=>(ya P e l (i*inf.size)).map .val
  |false=>none
 |_,_=>none
def Li(K:Tr AV)(c:Call):Option AR:=(P4 K c.args.toList).bind fun args=>match c.callee with
 |.value f=>(eB K f).bind fun v=>match v with
  |.fn g first caps=>some (.defer (.call g caps (first++args)))
  |_=>none
 |_=>none
def Gk(P:Program)(x:AV)(t:TypeId)(ok:Bool):Option AR:=match x,P.underlying t with
 |.rE _ _,some (.interface _)=>none
 |.rE u v,some _=>match Nat.beq u t with
  |true=>some (.val (match ok with|true=>.dD [v,.p (.bool true)]|false=>v))
  |false=>none
 |_,_=>none
def Sp(P:Program)(h:HS)(K:Tr AV)(x:Operand):Option AR:=(eB K x).map .val
def Jd(P:Program)(h:HS)(K:Tr AV)(x:Operand):Option AR:=(eB K x).map .val
def YK(P:Program)(h:HS)(K:Tr AV)(c:Operand)(a:Operand)(b:Operand):Option AR:=(eB K c).bind fun c=>match c with
 |.p (.bool true)=>(eB K a).map .val
 |.p (.bool false)=>(eB K b).map .val
 |_=>none
def V0(P:Program)(h:HS)(K:Tr AV)(t:TypeId):Option AR:=(uh P t).map fun z=>.new (.cells (z.toList.map .p) t) fun n=>.ptr n 0
def aaN(P:Program)(h:HS)(K:Tr AV)(t:TypeId)(x:Operand):Option AR:=(eB K x).map fun v=>.new (.cells (jS v) t) fun n=>.ptr n 0
def V1(P:Program)(h:HS)(K:Tr AV)(t:TypeId)(ps:Array (Nat×Operand)):Option AR:=(tI K ps.toList).bind fun ps=>K4 P t ps
def GQ(P:Program)(h:HS)(K:Tr AV)(t:TypeId)(len:Nat)(ps:Array (Nat×Operand)):Option AR:=(tI K ps.toList).bind fun ps=>sR P t len ps
def Sn(P:Program)(h:HS)(K:Tr AV)(t:TypeId)(a:Operand):Option AR:=(eB K a).bind fun a=>(Dk P h t a).map .val
def NX(P:Program)(h:HS)(K:Tr AV)(t:TypeId)(a:Operand)(x:Operand):Option AR:=(eB K a).bind fun a=>(eB K x).bind fun x=>Ei P h t a x
def CT(P:Program)(h:HS)(K:Tr AV)(x:Operand):Option AR:=(eB K x).bind fun x=>match x with
 |.ptr o f=>some (.val (.ptr o f))
 |.fn (.func g) a c=>some (.val (.fn (.func g) a c))
 |.yl o=>some (.val (.yl o))
 |_=>none
def NT(P:Program)(h:HS)(K:Tr AV)(op:BinOp)(t:TypeId)(x:Operand)(y:Operand)(_x4:TypeId):Option AR:=(eB K x).bind fun x=>(eB K y).bind fun y=>match op with
 |.eql=>(Yw P t x y).map fun b=>.val (.p (.bool b))
 |.neq=>(Yw P t x y).map fun b=>.val (.p (.bool (!b)))
 |_=>none
def Fi(P:Program)(h:HS)(K:Tr AV)(s:TypeId)(d:TypeId)(x:Operand):Option AR:=(eB K x).bind fun x=>xc P h s d x
def Br(P:Program)(h:HS)(K:Tr AV)(t:TypeId)(x:Operand):Option AR:=(eB K x).bind fun x=>match P.underlying t with
 |some (.interface _)=>none
 |some _=>some (.val (.rE t x))
 |none=>none
def LB(P:Program)(h:HS)(K:Tr AV)(f:Fn)(first:Array Operand)(caps:Array Operand):Option AR:=(P4 K first.toList).bind fun a=>(P4 K caps.toList).map fun c=>.val (.fn f a c)
def P6(P:Program)(h:HS)(K:Tr AV)(t:TypeId)(r:Option Operand):Option AR:=match r with
 |none=>some (.new (.map [] 0) .mp)
 |some x=>(jB P t).bind fun _=>(eB K x).bind wb |>.map fun _=>.new (.map [] 0) .mp
def Je(P:Program)(h:HS)(K:Tr AV)(t:TypeId)(l:Operand)(c:Operand):Option AR:=(eB K l).bind fun l=>(eB K c).bind fun c=>v7 P t l c
def V6(P:Program)(h:HS)(K:Tr AV)(t:TypeId)(x:Operand)(lo:Option Operand)(hi:Option Operand)(mx:Option Operand):Option AR:=(eB K x).bind fun x=>MG P h K t x lo hi mx
def AU(P:Program)(h:HS)(K:Tr AV)(t:TypeId)(x:Operand)(i:Nat):Option AR:=(eB K x).bind fun x=>rq P t x i
def NU(P:Program)(h:HS)(K:Tr AV)(t:TypeId)(x:Operand)(i:Nat):Option AR:=(eB K x).bind fun x=>GV P t x i
def AW(P:Program)(h:HS)(K:Tr AV)(t:TypeId)(x:Operand)(i:Operand):Option AR:=(eB K x).bind fun x=>(eB K i).bind fun i=>rF P t x i
def NV(P:Program)(h:HS)(K:Tr AV)(t:TypeId)(x:Operand)(i:Operand):Option AR:=(eB K x).bind fun x=>(eB K i).bind fun i=>G2 P t x i
def So(P:Program)(h:HS)(K:Tr AV)(t:TypeId)(m:Operand)(k:Operand)(ok:Bool):Option AR:=(eB K m).bind fun m=>(eB K k).bind fun k=>G9 P h t m k ok
def Jf(P:Program)(h:HS)(K:Tr AV)(t:TypeId)(m:Operand)(k:Operand)(x:Operand):Option AR:=(eB K m).bind fun m=>(eB K k).bind fun k=>(eB K x).bind fun x=>xL P h t m k x
def Sm(P:Program)(h:HS)(K:Tr AV)(t:TypeId)(m:Operand)(k:Operand)(x:Operand):Option AR:=(eB K m).bind fun m=>(eB K k).bind fun k=>(eB K x).bind fun x=>xL P h t m k x
def LC(P:Program)(h:HS)(K:Tr AV)(t:TypeId)(m:Operand)(k:Operand):Option AR:=(eB K m).bind fun m=>(eB K k).bind fun k=>Ha P h t m k
def GR(P:Program)(h:HS)(K:Tr AV)(_x0:TypeId)(m:Operand)(s:Operand)(x:Operand):Option AR:=(eB K m).bind fun m=>(eB K s).bind fun s=>(eB K x).bind fun x=>Ll h m s x
def V5(P:Program)(h:HS)(K:Tr AV)(t:TypeId)(x:Operand):Option AR:=(eB K x).bind fun x=>Mn P h t x
def YJ(P:Program)(h:HS)(K:Tr AV)(it:Operand)(s:Bool):Option AR:=(eB K it).bind fun it=>Tc h it s
def V3(P:Program)(h:HS)(K:Tr AV)(it:Operand):Option AR:=(eB K it).bind fun it=>Lo h it
def GS(P:Program)(h:HS)(K:Tr AV)(x:Operand)(_x1:TypeId)(t:TypeId)(ok:Bool):Option AR:=(eB K x).bind fun x=>Gk P x t ok
def Fj(P:Program)(h:HS)(K:Tr AV)(x:Operand)(i:Nat):Option AR:=(eB K x).bind fun x=>match x with
 |.dD l=>(l[i]?).map .val
 |_=>none
def LA(P:Program)(h:HS)(K:Tr AV)(c:Call):Option AR:=IY P h K c
def V2(P:Program)(h:HS)(K:Tr AV)(c:Call):Option AR:=Li K c
def V4(P:Program)(h:HS)(K:Tr AV)(x:Operand):Option AR:=(eB K x).bind fun x=>match x with
 |.rE t v=>some (.panic (.rE t v))
 |_=>none
def jC(P:Program)(h:HS)(K:Tr AV)(o:Oper):Option AR:=match o.op with
 |.move x0=>Sp P h K x0
 |.assign x0=>Jd P h K x0
 |.pick x0 x1 x2=>YK P h K x0 x1 x2
 |.alloc x0=>V0 P h K x0
 |.box x0 x1=>aaN P h K x0 x1
 |.build x0 x1=>V1 P h K x0 x1
 |.buildSlice x0 x1 x2=>GQ P h K x0 x1 x2
 |.load x0 x1=>Sn P h K x0 x1
 |.store x0 x1 x2=>NX P h K x0 x1 x2
 |.nilCheck x0=>CT P h K x0
 |.binOp x0 x1 x2 x3 x4=>NT P h K x0 x1 x2 x3 x4
 |.convert x0 x1 x2=>Fi P h K x0 x1 x2
 |.makeInterface x0 x1=>Br P h K x0 x1
 |.makeFunc x0 x1 x2=>LB P h K x0 x1 x2
 |.makeMap x0 x1=>P6 P h K x0 x1
 |.makeSlice x0 x1 x2=>Je P h K x0 x1 x2
 |.slice x0 x1 x2 x3 x4=>V6 P h K x0 x1 x2 x3 x4
 |.fieldAddr x0 x1 x2=>AU P h K x0 x1 x2
 |.field x0 x1 x2=>NU P h K x0 x1 x2
 |.indexAddr x0 x1 x2=>AW P h K x0 x1 x2
 |.index x0 x1 x2=>NV P h K x0 x1 x2
 |.lookup x0 x1 x2 x3=>So P h K x0 x1 x2 x3
 |.mapUpdate x0 x1 x2 x3=>Jf P h K x0 x1 x2 x3
 |.insert x0 x1 x2 x3=>Sm P h K x0 x1 x2 x3
 |.mapEntry x0 x1 x2=>LC P h K x0 x1 x2
 |.entryStore x0 x1 x2 x3=>GR P h K x0 x1 x2 x3
 |.range x0 x1=>V5 P h K x0 x1
 |.next x0 x1=>YJ P h K x0 x1
 |.entry x0=>V3 P h K x0
 |.typeAssert x0 x1 x2 x3=>GS P h K x0 x1 x2 x3
 |.extract x0 x1=>Fj P h K x0 x1
 |.call x0=>LA P h K x0
 |.defer x0=>V2 P h K x0
 |.panic x0=>V4 P h K x0
 |_=>none
def yH(P:Program)(h:HS)(K:Tr AV)(o:Oper):Option AR:=match jC P h K o with
 |some r=>some r
 |none=>DP P K o
inductive Fl where
 |no
 |val
 |new (o:Nat)
 deriving Inhabited
inductive AI where
 |code (c:Code)
 |mQ (id:Nat)
 |lp (c:Code)
 |sc (c:Code)
 |ops (ops:Array Oper) (l:List Nat)
 |qA (ops:Array Oper) (K0:Tr AV) (todo:List Nat) (pend:List (Nat×Fl))
 |rf (o:Nat)
 |er (o:Nat)
 |br
 deriving Inhabited
inductive AM where
 |run
 |ret
 |KH (l:List (AV×Bool))
 deriving Inhabited
structure AF where
 fn:FuncId
 n:Nat
 K:Tr AV
 todo:List AI
 ds:List AD
 mode:AM
 kind:CallKind
 rd:Option Nat
 deriving Inhabited
structure qW where
 h:HS
 fr:AF
 cs:List AF
 deriving Inhabited
inductive ia where
 |one (s:qW)
 |push (s:qW)
 |pop (s:qW)
 |many (l:List qW)
 |fin
 |bad (why:String)
def mf(K:Tr AV)(n:Nat)(d:Option Nat)(v:AV):Option (Tr AV):=match d with
 |none=>some K
 |some d=>match Nat.ble (d+1) n with
  |true=>some (K.put d (some v))
  |false=>none
def PG:Nat->Tr AV->List AV->Tr AV
 |_,K,[]=>K
 |i,K,v::l=>PG (i+1) (K.put i (some v)) l
def n8(ops:Array Oper)(i:Nat):Option Nat:=(ops[i]?).bind (·.dst)
def abP(ops:Array Oper)(K:Tr AV)(j:Nat):Option Bool:=((n8 ops j).bind K.get).bind fun v=>match v with
 |.p (.bool b)=>some b
 |_=>none
def kF(ops:Array Oper)(K:Tr AV)(o:Oper):Option Bool:=match o.guard with
 |none=>some true
 |some (j,w)=>((n8 ops j).bind K.get).map fun v=>match v with
  |.p (.bool b)=>b == w
  |_=>false
def CM:Op->Bool
 |.store .. | .mapUpdate .. | .insert .. | .mapEntry .. | .entryStore .. | .next .. | .defer _| .panic _| .go _| .send .. | .recv .. | .select .. | .ready _=>true
 |.call {callee:=.builtin b, .. }=>match b with| .len| .cap| .min| .max=>false|_=>true
 |.call _=>true
 |_=>false
def cl(A:AF)(v:AV):Option AF:=match A.mode,A.todo with
 |.run,.ops ops (i::l)::k=>(mf A.K A.n (n8 ops i) v).map fun K=>{A with K:=K,todo:=.ops ops l::k}
 |.run,.qA ops K0 (c::t) pend::k=>(mf A.K A.n (n8 ops c) v).map fun K=>{A with K:=K,todo:=.qA ops K0 t (pend.filter fun q=>!D.pO ops q.1 c)::k}
 |.run,.rf o::k=>some {A with todo:=.er o::k}
 |_,_=>none
def tj(P:Program)(f:FuncId)(args:List AV)(kind:CallKind):Option AF:=(P.funcs[f]?).bind fun fn=>fn.body.bind fun c=>
 match Nat.ble args.length fn.ntmps with
 |true=>some {fn:=f,n:=fn.ntmps,K:=PG 0 .nil args,todo:=[.code c],ds:=[],mode:=.run,kind:=kind,rd:=none}
 |false=>none
def A8:Tr AV->Nat->List Tmp->List AV->Option (Tr AV)
 |K,_,[],[]=>some K
 |K,n,t::ts,v::vs=>match Nat.ble (t+1) n with
  |true=>A8 (K.put t (some v)) n ts vs
  |false=>none
 |_,_,_,_=>none
def zS(A:AF)(l:List (AV×Bool)):AF:=match A.mode with
 |.KH old=>{A with mode:=.KH (l++old)}
 |_=>{A with mode:=.KH l}
def lG(why:String):Option ia->ia
 |some r=>r
 |none=>.bad why
def xy(k:IntKind)(n:Nat):Option AV:=Nat.rec (motive:=fun _=>Option AV) (some (.p (.int k (.ofNat 0)))) (fun m _=>some (.p (.int k (.ofNat (Nat.succ m))))) n
def Ji(k:IntKind)(i:Int):Option AV:=Int.rec (motive:=fun _=>Option AV) (xy k) (fun m=>some (.p (.int k (.negSucc m)))) i
def Sk:FuncId:=139
def GP:FuncId:=224
def YI(f:FuncId):Bool:=Nat.beq f GP||Nat.beq f Sk
def PM:List AV->Option (List UInt8)
 |[]=>some []
 |.p (.int .u8 (.ofNat n))::l=>match Nat.ble n 255 with|true=>(PM l).map (UInt8.ofNat n:: ·)|false=>none
 |_=>none
def aat(n z:Nat):Option Nat->Bool
 |some c=>Nat.ble n c
 |none=>Nat.beq z 1
def YZ(h:HS):List AV->Option AV
 |[.sl o f n c z,.sl p g m d y]=>match aat n z c&&Nat.ble n 4294967280&&Nat.ble m 9223372036854775807 with
  |true=>(tL h 1 n (.sl o f n c z)).bind fun a=>(PM a).bind fun a=>(tL h 1 m (.sl p g m d y)).bind fun b=>(PM b).bind fun b=>Ji .i64 (Lib.index a b)
  |false=>none
 |_=>none
def J9(a s:Nat):Nat:=Nat.mod (Nat.lor (Nat.shiftLeft a s) (Nat.shiftRight a (Nat.sub 32 s))) 4294967296
def abv:List AV->Option AV
 |[.p (.int .u32 (.ofNat a)),.p (.int .i64 k)]=>xy .u32 (J9 a (Int.toNat (Int.emod k 32)))
 |_=>none
def aaM(f:FuncId)(h:HS)(args:List AV):Option AV:=match Nat.beq f GP with
 |true=>abv args
 |false=>YZ h args
def Bq(f:FuncId)(h:HS)(args:List AV):Option AV:=match YI f with
 |true=>aaM f h args
 |false=>none
def jR(P:Program)(s:qW)(r:AR):ia:=match r with
 |.val v=>lG "finish" ((cl s.fr v).map fun fr=>.one {s with fr:=fr})
 |.new x mk=>lG "finish" ((cl s.fr (mk s.h.nx)).map fun fr=>.one {s with h:=s.h.add x,fr:=fr})
 |.la v h=>lG "finish" ((cl s.fr v).map fun fr=>.one {s with h:=h,fr:=fr})
 |.many l=>lG "finish" ((l.mapM fun q=>(cl s.fr q.1).map fun fr=>{s with h:=q.2,fr:=fr}).map .many)
 |.enter f args=>match Bq f s.h args with
  |some v=>lG "finish" ((cl s.fr v).map fun fr=>.one {s with fr:=fr})
  |none=>lG "enter" ((tj P f args .normal).map fun fr=>.push {s with fr:=fr,cs:=s.fr::s.cs})
 |.round o args=>lG "round" ((s.h.H.get o).bind fun x=>match x with
  |.loop _ _ fn n K ps fC body _=>(A8 K n ps.toList args).map fun K=>.push {s with fr:={fn:=fn,n:=n,K:=K,todo:=[.code fC,.br,.code body],ds:=[],mode:=.run,kind:=.normal,rd:=some o},cs:=s.fr::s.cs}
  |_=>none)
 |.defer d=>match s.fr.rd with
  |none=>lG "finish" ((cl s.fr gH).map fun fr=>.one {s with fr:={fr with ds:=d::fr.ds}})
  |some _=>.bad "defer in a round"
 |.panic v=>.one {s with fr:=zS s.fr [(v,false)]}
 |.recover=>match s.fr.rd,s.fr.kind,s.cs with
  |none,.deferred,c::cs=>(match c.mode with
   |.KH ((v,false)::older)=>lG "finish" ((cl s.fr v).map fun fr=>.one {s with fr:=fr,cs:={c with mode:=.KH ((v,true)::older)}::cs})
   |_=>lG "finish" ((cl s.fr (.p .nilIface)).map fun fr=>.one {s with fr:=fr}))
  |none,.normal,_=>lG "finish" ((cl s.fr (.p .nilIface)).map fun fr=>.one {s with fr:=fr})
  |_,_,_=>.bad "recover"
def xm(id:Nat):List AI->Option (List AI)
 |.mQ id'::k=>match Nat.beq id' id with|true=>some k|false=>xm id k
 |_::k=>xm id k
 |[]=>none
def Da(l:Nat):List AI->Option (List AI)
 |.sc body::k=>match findLabel body l with
  |some rest=>some (.code rest:: .sc body::k)
  |none=>Da l k
 |_::k=>Da l k
 |[]=>none
def mX(s:qW)(jump:Option Code):ia:=match s.fr.rd with
 |none=>(match jump with
  |none|some .ret=>.one {s with fr:={s.fr with mode:=.ret}}
  |_=>.bad "exit")
 |some o=>lG "endRound" ((s.h.H.get o).bind fun x=>match x,s.fr.kind,s.cs with
  |.loop _ _ fn n K ps fC body d,.normal,c::cs=>(cl c (.p (.bool jump.isNone))).map fun c=>
   .pop {h:=s.h.set o (.loop (if jump.isNone then .ready else .done) jump fn n K ps fC body d),fr:=c,cs:=cs}
  |_,_,_=>none)
def Sh:Value->Value->Bool
 |.bool a,.bool b=>a == b
 |.int k a,.int l b=>decide (k=l)&&decide (a=b)
 |.string a,.string b=>decide (a=b)
 |.pointer a,.pointer b=>decide (a=b)
 |.slice none m c,.slice none n d=>Nat.beq m n&&Nat.beq c d
 |.map none,.map none| .nilFunc,.nilFunc| .nilIface,.nilIface=>true
 |.tuple ⟨[]⟩,.tuple ⟨[]⟩=>true
 |_,_=>false
def eqN:Option Nat->Option Nat->Bool
 |none,none=>true
 |some a,some b=>Nat.beq a b
 |_,_=>false
mutual
def ln:AV->AV->Bool
 |.p a,.p b=>Sh a b
 |.ptr o f,.ptr o' f'=>Nat.beq o o'&&Nat.beq f f'
 |.sl o f n c z,.sl o' f' n' c' z'=>Nat.beq o o'&&Nat.beq f f'&&Nat.beq n n'&&eqN c c'&&Nat.beq z z'
 |.mp o,.mp o'=>Nat.beq o o'
 |.fn f a c,.fn f' a' c'=>decide (f=f')&&zk a a'&&zk c c'
 |.yl o,.yl o'=>Nat.beq o o'
 |.rE t v,.rE t' v'=>Nat.beq t t'&&ln v v'
 |.agg l,.agg l'=>zk l l'
 |.dD l,.dD l'=>zk l l'
 |_,_=>false
def zk:List AV->List AV->Bool
 |[],[]=>true
 |x::l,y::l'=>ln x y&&zk l l'
 |_,_=>false
end
def Yx:AO->AO->Bool
 |.cells l T,.cells l' T'=>zk l l'&&Nat.beq T T'
 |.map [] c,.map [] c'=>Nat.beq c c'
 |.sD m s [] t,.sD m' s' [] t'=>Nat.beq m m'&&Nat.beq s s'&&Nat.beq t t'
 |.X3 s p,.X3 s' p'=>decide (s=s')&&Nat.beq p p'
 |_,_=>false
def Hd(ops:Array Oper)(K0:Tr AV)(i:Nat):List Tmp->Tr AV->Tr AV
 |[],K=>K
 |t::ts,K=>Hd ops K0 i ts (match D.writer ops t with
  |none=>K
  |some j=>match D.pO ops j i with
   |true=>K
   |false=>K.put t (K0.get t))
def Bu(ops:Array Oper)(K0 K:Tr AV)(i:Nat)(o:Oper):Tr AV:=Hd ops K0 i (o.looksAt ops) K
def oJ(P:Program)(ops:Array Oper)(K0:Tr AV)(todo:List Nat)(n:Nat):List (Nat×Fl)->HS->Tr AV->Option (HS×Tr AV×List (Nat×Fl))
 |[],h,K=>some (h,K,[])
 |(i,fl)::l,h,K=>match(match fl with| .no=>todo.any fun c=>D.pO ops c i|_=>true)with
  |true=>(oJ P ops K0 todo n l h K).map fun r=>(r.1,r.2.1,(i,fl)::r.2.2)
  |false=>(ops[i]?).bind fun o=>(kF ops (Bu ops K0 K i o) o).bind fun g=>
   (match g with
    |false=>(mf K n o.dst gH).map fun K=>(h,K,Fl.val)
    |true=>(yH P h (Bu ops K0 K i o) o).bind fun r=>match r with
     |.val v=>(mf K n o.dst v).map fun K=>(h,K,Fl.val)
     |.new x mk=>(mf K n o.dst (mk h.nx)).map fun K=>(h.add x,K,Fl.new h.nx)
     |_=>none:Option (HS×Tr AV×Fl)).bind fun q=>(oJ P ops K0 todo n l q.1 q.2.1).map fun r=>(r.1,r.2.1,(i,q.2.2)::r.2.2)
def I7(K:Tr AV)(n:Nat)(d:Option Nat)(v:AV):Bool:=match d with
 |none=>true
 |some d=>Nat.ble (d+1) n&&(match K.get d with|some u=>ln u v|none=>false)
def Gq(P:Program)(ops:Array Oper)(K0:Tr AV)(n:Nat)(h:HS)(K:Tr AV)(q:Nat×Fl):Bool:=match q.2 with
 |.no=>true
 |fl=>match ops[q.1]? with
  |none=>false
  |some o=>match kF ops (Bu ops K0 K q.1 o) o with
   |none=>false
   |some false=>(match fl with| .val=>I7 K n o.dst gH|_=>false)
   |some true=>(match yH P h (Bu ops K0 K q.1 o) o,fl with
    |some (.val v),.val=>I7 K n o.dst v
    |some (.new x mk),.new q=>I7 K n o.dst (mk q)&&(match h.H.get q with|some y=>Yx y x|none=>false)
    |_,_=>false)
def OA(ops:Array Oper)(i:Nat):Bool:=match ops[i]? with
 |none=>true
 |some o=>(o.looksAt ops).all fun t=>match D.writer ops t with
  |none=>true
  |some j=>D.pO ops j i||D.pO ops i j
def K9(ops:Array Oper)(n:Nat):Bool:=D.tidy ops n&&(List.range ops.size).all (OA ops)
def wc:List (Nat×Fl)->List Nat
 |[]=>[]
 |(_,.new o)::l=>o::wc l
 |_::l=>wc l
def Hg:List Nat->Bool
 |[]=>true
 |x::l=>!l.any (Nat.beq x)&&Hg l
def Wn:Fl->Bool
 |.no=>true
 |_=>false
def RP(P:Program)(ops:Array Oper)(K0:Tr AV)(n:Nat)(todo:List Nat)(h:HS)(K:Tr AV)(pend:List (Nat×Fl)):Bool:=
 pend.all (Gq P ops K0 n h K)&&(pend.all fun q=>!Wn q.2||todo.any fun c=>D.pO ops c q.1)&&Hg (wc pend)&&match todo with
  |[]=>true
  |c::t=>t.all fun c'=>D.pO ops c c'
def acC(o:Oper):String:=match o.op with
 |.move _=> "move" | .assign _=> "assign" | .pick .. => "pick" | .alloc _=> "alloc" | .box .. => "box" | .build .. => "build" | .buildSlice .. => "buildSlice" | .load .. => "load" | .store .. => "store" | .nilCheck _=> "nilCheck" | .binOp .. => "binOp" | .unOp .. => "unOp" | .convert .. => "convert" | .makeInterface .. => "makeInterface" | .makeFunc .. => "makeFunc" | .makeMap .. => "makeMap" | .makeSlice .. => "makeSlice" | .slice .. => "slice" | .fieldAddr .. => "fieldAddr" | .field .. => "field" | .indexAddr .. => "indexAddr" | .index .. => "index" | .lookup .. => "lookup" | .mapUpdate .. => "mapUpdate" | .insert .. => "insert" | .mapEntry .. => "mapEntry" | .entryStore .. => "entryStore" | .range .. => "range" | .next .. => "next" | .entry .. => "entry" | .typeAssert .. => "typeAssert" | .extract .. => "extract" | .call _=> "call" | .defer _=> "defer" | .panic _=> "panic" | _=> "op"
def rU(P:Program)(s:qW)(ops:Array Oper)(i:Nat)(mx:Oper->Tr AV):ia:=match ops[i]? with
 |none=>.bad "no op"
 |some o=>match kF ops (mx o) o with
  |none=>.bad "guard"
  |some false=>lG "finish" ((cl s.fr gH).map fun fr=>.one {s with fr:=fr})
  |some true=>match yH P s.h (mx o) o with
   |some r=>jR P s r
   |none=>.bad (acC o)
def qy(P:Program)(s:qW)(ops:Array Oper)(K0:Tr AV)(todo:List Nat)(pend:List (Nat×Fl))(k:List AI):ia:=
 match oJ P ops K0 todo s.fr.n pend s.h s.fr.K with
 |none=>.bad "stage"
 |some (h,K,pend)=>match RP P ops K0 s.fr.n todo h K pend with
  |false=>.bad "drawn"
  |true=>match todo with
   |[]=>.one {s with h:=h,fr:={s.fr with K:=K,todo:=k}}
   |c::_=>rU P {s with h:=h,fr:={s.fr with K:=K,todo:=.qA ops K0 todo pend::k}} ops c (Bu ops K0 K c)
def wk(ops:Array Oper):List (Nat×Fl):=(List.range ops.size).filterMap fun i=>(ops[i]?).bind fun o=>match CM o.op with|true=>none|false=>some (i,.no)
def zd(ops:Array Oper):List Nat:=(List.range ops.size).filter fun i=>match ops[i]? with|some o=>CM o.op|none=>false
def mA(P:Program)(s:qW)(c:Code)(k:List AI):ia:=
 let to (l:List AI):ia:=.one {s with fr:={s.fr with todo:=l}}
 match c with
 |.skip| .label _=>to k
 |.ret=>mX s (some .ret)
 |.seq a b=>to (.code a:: .code b::k)
 |.cond c a b=>(match eB s.fr.K c with
  |some (.p (.bool true))=>to (.code a::k)
  |some (.p (.bool false))=>to (.code b::k)
  |_=>.bad "cond")
 |.block id b=>to (.code b:: .mQ id::k)
 |.loop b=>to (.code b:: .lp b::k)
 |.scope b=>to (.code b:: .sc b::k)
 |.exit id=>(match xm id k with
  |some k=>to k
  |none=>mX s (some (.exit id)))
 |.goto l=>(match Da l k with
  |some k=>to k
  |none=>mX s (some (.goto l)))
 |.region _ ops false=>to (.ops ops (List.range ops.size)::k)
 |.region _ ops true=>(match P.follows .mixedOrders&&K9 ops s.fr.n with|true=>to (.qA ops s.fr.K (zd ops) (wk ops)::k)|false=>.bad "orders")
 |.rangeFunc f ps fC body=>lG "rangeFunc" (
  (match s.fr.rd with
   |none=>some (s.h.add (.XL false),s.h.nx,[AD.RU s.h.nx])
   |some l=>(s.h.H.get l).bind fun x=>match x with| .loop _ _ _ _ _ _ _ _ d=>some (s.h,d,[])|_=>none:Option (HS×Nat×List AD)).bind fun q=>
  (eB s.fr.K f).bind fun v=>match v with
   |.fn (.func g) first caps=>match pc P g with
    |true=>(tj P g (first++[AV.yl q.1.nx]++caps) .normal).map fun fr=>
     .push {h:=q.1.add (.loop .ready none s.fr.fn s.fr.n s.fr.K ps fC body q.2.1),fr:=fr,cs:={s.fr with todo:=.rf q.1.nx::k,ds:=q.2.2++s.fr.ds}::s.cs}
    |false=>none
   |_=>none)
 |.refuse _=>.bad "refuse"
def po(P:Program)(s:qW):ia:=match s.fr.todo with
 |[]=>mX s none
 |.code c::k=>mA P s c k
 |.mQ _::k| .sc _::k=>.one {s with fr:={s.fr with todo:=k}}
 |.lp c::k=>.one {s with fr:={s.fr with todo:=.code c:: .lp c::k}}
 |.ops _ []::k=>.one {s with fr:={s.fr with todo:=k}}
 |.ops ops (i::_)::_=>rU P s ops i fun _=>s.fr.K
 |.qA ops K0 todo pend::k=>qy P s ops K0 todo pend k
 |.rf _::_=>.bad "rf"
 |.er o::k=>lG "endLoop" ((s.h.H.get o).bind fun x=>match x with
  |.loop st pe fn n K ps fC body d=>(match st with
   |.busy=>none
   |_=>some (.one {s with h:=s.h.set o (.loop .exhausted pe fn n K ps fC body d),fr:={s.fr with todo:=(pe.map AI.code).toList++k}}))
  |_=>none)
 |.br::k=>lG "beginRound" (s.fr.rd.bind fun o=>(s.h.H.get o).bind fun x=>match x with
  |.loop .ready pe fn n K ps fC body d=>some (.one {s with h:=s.h.set o (.loop .busy pe fn n K ps fC body d),fr:={s.fr with todo:=k}})
  |_=>none)
def Bw(P:Program)(h:HS)(K:Tr AV):List ResultVar->Option (List AV)
 |[]=>some []
 |.tmp t::l=>(K.get t).bind fun v=>(Bw P h K l).map (v:: ·)
 |.cell a t::l=>(K.get a).bind fun a=>(Dk P h t a).bind fun v=>(Bw P h K l).map (v:: ·)
def Mr:List AV->AV
 |[v]=>v
 |l=>.dD l
def DT:List AI->List ResultVar->Bool
 |.qA ops _ _ _::_,rs=>rs.all fun r=>match r with
  |.tmp t=>(D.writer ops t).isNone
  |.cell a _=>(D.writer ops a).isNone
 |_,_=>true
def HE:AM->AM
 |.KH ((_,true)::_)=>.ret
 |m=>m
def u9(P:Program)(s:qW):ia:=match s.fr.ds with
 |.RU o::ds=>lG "collected" ((s.h.H.get o).bind fun x=>match x with
  |.XL false=>some (.one {s with h:=s.h.set o (.XL true),fr:={s.fr with ds:=ds}})
  |_=>none)
 |.call f cap args::ds=>(match f with
  |.func g=>(match pc P g with
   |true=>lG "deferred" ((tj P g (args++cap) .deferred).map fun fr=>.push {s with fr:=fr,cs:={s.fr with ds:=ds}::s.cs})
   |false=>.bad "deferred")
  |_=>.bad "deferred")
 |[]=>match s.fr.mode with
  |.run=>.bad "unwind"
  |.KH l=>(match s.cs,P.funcs[s.fr.fn]? with
   |c::cs,some _=>.pop {s with fr:=zS c l,cs:=cs}
   |_,_=>.bad "panic")
  |.ret=>(match s.cs with
   |[]=>.fin
   |c::cs=>lG "return" ((P.funcs[s.fr.fn]?).bind fun fn=>(Bw P s.h s.fr.K fn.results.toList).bind fun vs=>match DT s.fr.todo fn.results.toList,s.fr.kind with
    |true,.normal=>(cl c (Mr vs)).map fun c=>.pop {s with fr:=c,cs:=cs}
    |true,.deferred=>some (.pop {s with fr:={c with mode:=HE c.mode},cs:=cs})
    |_,_=>none))
def gG(P:Program)(s:qW):ia:=match s.fr.mode with
 |.run=>po P s
 |_=>u9 P s
end
end Go.Proofs.YtjfkdglgecgjfaaGreat.R
namespace Go.Proofs.YtjfkdglgecgjfaaGreat.R
open Go.RowKit
noncomputable def cC(P:Program)(h:HS)(K:Tr AV)(o:Oper):Option AR:=match o.op with
 |.move x| .assign x=>(eB K x).map .val
 |.pick c a b=>(eB K c).bind fun c=>match c with
  |.p (.bool true)=>(eB K a).map .val
  |.p (.bool false)=>(eB K b).map .val
  |_=>none
 |.alloc t=>(uh P t).map fun z=>.new (.cells (z.toList.map .p) t) fun n=>.ptr n 0
 |.box t x=>(eB K x).map fun v=>.new (.cells (jS v) t) fun n=>.ptr n 0
 |.build t ps=>(tI K ps.toList).bind fun ps=>K4 P t ps
 |.buildSlice t len ps=>(tI K ps.toList).bind fun ps=>sR P t len ps
 |.load t a=>(eB K a).bind fun a=>(Dk P h t a).map .val
 |.store t a x=>(eB K a).bind fun a=>(eB K x).bind fun x=>Ei P h t a x
 |.nilCheck x=>(eB K x).bind fun x=>match x with
  |.ptr o f=>some (.val (.ptr o f))
  |.fn (.func g) a c=>some (.val (.fn (.func g) a c))
  |.yl o=>some (.val (.yl o))
  |_=>none
 |.binOp op t x y _=>(eB K x).bind fun x=>(eB K y).bind fun y=>match op with
  |.eql=>(Yw P t x y).map fun b=>.val (.p (.bool b))
  |.neq=>(Yw P t x y).map fun b=>.val (.p (.bool (!b)))
  |_=>none
 |.convert s d x=>(eB K x).bind fun x=>xc P h s d x
 |.makeInterface t x=>(eB K x).bind fun x=>match P.underlying t with
  |some (.interface _)=>none
  |some _=>some (.val (.rE t x))
  |none=>none
 |.makeFunc f first caps=>(P4 K first.toList).bind fun a=>(P4 K caps.toList).map fun c=>.val (.fn f a c)
 |.makeMap t r=>match r with
  |none=>some (.new (.map [] 0) .mp)
  |some x=>(jB P t).bind fun _=>(eB K x).bind wb |>.map fun _=>.new (.map [] 0) .mp
 |.makeSlice t l c=>(eB K l).bind fun l=>(eB K c).bind fun c=>v7 P t l c
 |.slice t x lo hi mx=>(eB K x).bind fun x=>MG P h K t x lo hi mx
 |.fieldAddr t x i=>(eB K x).bind fun x=>rq P t x i
 |.field t x i=>(eB K x).bind fun x=>GV P t x i
 |.indexAddr t x i=>(eB K x).bind fun x=>(eB K i).bind fun i=>rF P t x i
 |.index t x i=>(eB K x).bind fun x=>(eB K i).bind fun i=>G2 P t x i
 |.lookup t m k ok=>(eB K m).bind fun m=>(eB K k).bind fun k=>G9 P h t m k ok
 |.mapUpdate t m k x| .insert t m k x=>(eB K m).bind fun m=>(eB K k).bind fun k=>(eB K x).bind fun x=>xL P h t m k x
 |.mapEntry t m k=>(eB K m).bind fun m=>(eB K k).bind fun k=>Ha P h t m k
 |.entryStore _ m s x=>(eB K m).bind fun m=>(eB K s).bind fun s=>(eB K x).bind fun x=>Ll h m s x
 |.range t x=>(eB K x).bind fun x=>Mn P h t x
 |.next it s=>(eB K it).bind fun it=>Tc h it s
 |.entry it=>(eB K it).bind fun it=>Lo h it
 |.typeAssert x _ t ok=>(eB K x).bind fun x=>Gk P x t ok
 |.extract x i=>(eB K x).bind fun x=>match x with
  |.dD l=>(l[i]?).map .val
  |_=>none
 |.call c=>IY P h K c
 |.defer c=>Li K c
 |.panic x=>(eB K x).bind fun x=>match x with
  |.rE t v=>some (.panic (.rE t v))
  |_=>none
 |_=>none
theorem Tx(P:Program)(h:HS)(K:Tr AV)(o:Oper):jC P h K o=cC P h K o:=by
 unfold jC cC;cases o.op<;>rfl
def JR:Nb->Nat
 |.e=>0
 |.a q=>4*JR q+1
 |.b q=>4*JR q+2
 |.c q=>4*JR q+3
 |.d q=>4*JR q+4
theorem Tj:∀(f n:Nat),n<f->JR (Ht f n)=n:=by
 intro f
 induction f with
 |zero=>intro n h;omega
 |succ f ih=>
  intro n h
  unfold Ht
  cases h0:Nat.beq n 0 with
  |true=>exact(ah h0).symm
  |false=>
   have hn:n≠0:=fun e=>by rw[e]at h0;cases h0
   have one:∀d,n % 4=d->d≠0->4*JR (Ht f (Nat.div n 4))+d=n:=fun d hd h0=>by
    rw[ih (Nat.div n 4) (show n/4<f by omega)];show 4*(n/4)+d=n;omega
   dsimp only
   split
   . next k=>exact one 1 k (by omega)
   . next k=>exact one 2 k (by omega)
   . next k=>exact one 3 k (by omega)
   . next k1 k2 k3=>
     have k:n % 4=0:=by
      have:=Nat.mod_lt n (show 0<4 by omega);have k1:n % 4≠1:=k1;have k2:n % 4≠2:=k2;have k3:n % 4≠3:=k3;omega
     show 4*JR (Ht f (n/4-1))+4=n
     rw[ih _ (by omega)];omega
theorem Ot(n:Nat):JR (A1 n)=n:=Tj _ n (by omega)
theorem ZE{n m:Nat}(h:m≠n):A1 m≠A1 n:=fun e=>h (by rw[<- Ot m,e,Ot])
section
variable {α:Type}
theorem qD(x:Option α):∀(q:Nb) (t:Tr α),rB q (EX q x t)=x
 |.e,t=>by cases t<;>rfl
 |.a q,t=>by cases t<;>exact qD x q _
 |.b q,t=>by cases t<;>exact qD x q _
 |.c q,t=>by cases t<;>exact qD x q _
 |.d q,t=>by cases t<;>exact qD x q _
theorem j9(q:Nb):rB q (.nil:Tr α)=none:=by cases q<;>rfl
theorem ft(x:Option α):∀(q r:Nb) (t:Tr α),r≠q->rB r (EX q x t)=rB r t
 |.e,r,t,h=>by cases t<;>cases r<;>first|exact absurd rfl h|rfl|exact j9 _
 |.a q,r,t,h=>by
  cases t<;>cases r<;>first|rfl|exact j9 _|skip
  . exact(ft x q _ .nil fun e=>h (by rw[e])).trans (j9 _)
  . exact ft x q _ _ fun e=>h (by rw[e])
 |.b q,r,t,h=>by
  cases t<;>cases r<;>first|rfl|exact j9 _|skip
  . exact(ft x q _ .nil fun e=>h (by rw[e])).trans (j9 _)
  . exact ft x q _ _ fun e=>h (by rw[e])
 |.c q,r,t,h=>by
  cases t<;>cases r<;>first|rfl|exact j9 _|skip
  . exact(ft x q _ .nil fun e=>h (by rw[e])).trans (j9 _)
  . exact ft x q _ _ fun e=>h (by rw[e])
 |.d q,r,t,h=>by
  cases t<;>cases r<;>first|rfl|exact j9 _|skip
  . exact(ft x q _ .nil fun e=>h (by rw[e])).trans (j9 _)
  . exact ft x q _ _ fun e=>h (by rw[e])
theorem get_nil(n:Nat):(Tr.nil:Tr α).get n=none:=j9 _
theorem pj(t:Tr α)(n:Nat)(x:Option α):(t.put n x).get n=x:=qD x _ t
theorem dK(t:Tr α){n m:Nat}(x:Option α)(h:m≠n):(t.put n x).get m=t.get m:=ft x _ _ t (ZE h)
theorem iu(t:Tr α)(n m:Nat)(x:Option α):(t.put n x).get m=if m=n then x else t.get m:=by
 by_cases h:m=n
 . rw[if_pos h,h,pj]
 . rw[if_neg h,dK t x h]
end
def Ext(ρ ρ':lP):Prop:=∀o l,ρ o=some l->ρ' o=some l
theorem Ext.refl(ρ:lP):Ext ρ ρ:=fun _ _ h=>h
theorem Ext.trans{a b c:lP}(h:Ext a b)(k:Ext b c):Ext a c:=fun o l e=>k o l (h o l e)
mutual
theorem fV{ρ ρ':lP}(h:Ext ρ ρ'):∀(x:AV) (v:Value),conv ρ x=some v->conv ρ' x=some v
 |.p v,_,e=>by simpa only[conv]using e
 |.ptr o f,v,e=>by
  simp only[conv,ab]at e ⊢;obtain⟨a,h1,h2⟩:=e;exact⟨a,h _ _ h1,h2⟩
 |.sl o f n c z,v,e=>by
  simp only[conv,ab]at e ⊢;obtain⟨a,h1,h2⟩:=e;exact⟨a,h _ _ h1,h2⟩
 |.mp o,v,e=>by
  simp only[conv,ab]at e ⊢;obtain⟨a,h1,h2⟩:=e;exact⟨a,h _ _ h1,h2⟩
 |.yl o,v,e=>by
  simp only[conv,ab]at e ⊢;obtain⟨a,h1,h2⟩:=e;exact⟨a,h _ _ h1,h2⟩
 |.fn f a c,v,e=>by
  simp only[conv,aa,ab]at e ⊢;obtain⟨x,h1,y,h2,h3⟩:=e;exact⟨x,fc h a x h1,y,fc h c y h2,h3⟩
 |.rE t x,v,e=>by
  simp only[conv,ab]at e ⊢;obtain⟨a,h1,h2⟩:=e;exact⟨a,fV h x a h1,h2⟩
 |.agg l,v,e=>by
  simp only[conv,ab]at e ⊢;obtain⟨a,h1,h2⟩:=e;exact⟨a,fc h l a h1,h2⟩
 |.dD l,v,e=>by
  simp only[conv,ab]at e ⊢;obtain⟨a,h1,h2⟩:=e;exact⟨a,fc h l a h1,h2⟩
theorem fc{ρ ρ':lP}(h:Ext ρ ρ'):∀(x:List AV) (v:List Value),bX ρ x=some v->bX ρ' x=some v
 |[],_,e=>by simpa only[bX]using e
 |x::l,v,e=>by
  simp only[bX,aa,ab]at e ⊢;obtain⟨a,h1,b,h2,h3⟩:=e;exact⟨a,fV h x a h1,b,fc h l b h2,h3⟩
end
section
variable {ρ ρ':lP}
theorem nr:∀(l:List Value),bX ρ (l.map .p)=some l
 |[]=>rfl
 |v::l=>by simp only[aF,bX,conv,nr l,ae,ak]
theorem iI(v:Value):conv ρ (E5 v)=some v:=by
 cases v<;>simp only[E5,conv,nr,ak,ae,Array.toArray_toList]
theorem E8:∀(l:List Value),bX ρ (l.map E5)=some l
 |[]=>rfl
 |v::l=>by simp only[aF,bX,iI,E8 l,ae,ak]
theorem n6{x:AV}{v:Value}(h:toV x=some v):conv ρ x=some v:=fV (fun _ _ h=>by cases h) x v h
theorem dy{x:AV}{l:List AV}{vs:List Value}(h:bX ρ (x::l)=some vs):∃v ws,vs=v::ws/\conv ρ x=some v/\bX ρ l=some ws:=by
 simp only[bX,aa,ab]at h;obtain⟨a,h1,b,h2,h3⟩:=h;exact⟨a,b,h3.symm,h1,h2⟩
theorem n5{x:AV}{l:List AV}{v:Value}{ws:List Value}(h1:conv ρ x=some v)(h2:bX ρ l=some ws):bX ρ (x::l)=some (v::ws):=by
 simp only[bX,h1,h2,ae,ak]
theorem eA:∀{l:List AV} {vs:List Value},bX ρ l=some vs->vs.length=l.length
 |[],_,h=>by simp only[bX,af]at h;rw[<- h];rfl
 |x::l,_,h=>by
  obtain⟨v,ws,rfl,_,h2⟩:=dy h;simp only[bw,eA h2]
theorem dc:∀{l l':List AV} {vs ws:List Value},bX ρ l=some vs->bX ρ l'=some ws->bX ρ (l++l')=some (vs++ws)
 |[],_,_,_,h,h'=>by simp only[bX,af]at h;rw[<- h];exact h'
 |x::l,_,_,_,h,h'=>by
  obtain⟨v,ws,rfl,h1,h2⟩:=dy h;exact n5 h1 (dc h2 h')
theorem lV:∀(n:Nat) {l:List AV} {vs:List Value},bX ρ l=some vs->bX ρ (l.take n)=some (vs.take n)
 |0,_,_,_=>rfl
 |n+1,[],_,h=>by simp only[bX,af]at h;rw[<- h];rfl
 |n+1,x::l,_,h=>by
  obtain⟨v,ws,rfl,h1,h2⟩:=dy h;exact n5 h1 (lV n h2)
theorem lS:∀(n:Nat) {l:List AV} {vs:List Value},bX ρ l=some vs->bX ρ (l.drop n)=some (vs.drop n)
 |0,_,_,h=>h
 |n+1,[],_,h=>by simp only[bX,af]at h;rw[<- h];rfl
 |n+1,x::l,_,h=>by
  obtain⟨v,ws,rfl,h1,h2⟩:=dy h;exact lS n h2
theorem lU:∀{l:List AV} {vs:List Value} {i:Nat} {x:AV},bX ρ l=some vs->l[i]?=some x->∃v,vs[i]?=some v/\conv ρ x=some v
 |[],_,_,_,_,hi=>by simp at hi
 |x::l,_,0,y,h,hi=>by
  obtain⟨v,ws,rfl,h1,h2⟩:=dy h;simp only[List.getElem?_cons_zero,af]at hi;exact⟨v,rfl,hi▸h1⟩
 |x::l,_,i+1,y,h,hi=>by
  obtain⟨v,ws,rfl,h1,h2⟩:=dy h;simp only[List.getElem?_cons_succ]at hi ⊢;exact lU h2 hi
theorem vV{x:AV}{v:Value}(h:conv ρ x=some v):bX ρ (jS x)=some v.cells.toList:=by
 cases x with
 |agg l=>
  simp only[conv,ab]at h
  obtain⟨a,h1,rfl⟩:=h
  simpa only[jS,Value.cells]using h1
 |p w=>
  simp only[conv,af]at h
  subst h
  cases w<;>simp only[jS,Value.cells,bX,conv,nr,ae,ak]
 |ptr o f|mp o|yl o=>
  simp only[conv,ab]at h
  obtain⟨a,h1,rfl⟩:=h
  simp only[jS,Value.cells,bX,conv,h1,ae,ak]
 |sl o f n c z=>
  simp only[conv,ab]at h
  obtain⟨a,h1,rfl⟩:=h
  simp only[jS,Value.cells,bX,conv,h1,ae,ak]
 |fn f a c=>
  have h':=h
  simp only[conv,aa,ab]at h
  obtain⟨x,h1,y,h2,rfl⟩:=h
  simp only[jS,Value.cells,bX,h',ae,ak]
 |rE t y=>
  have h':=h
  simp only[conv,ab]at h
  obtain⟨a,h1,rfl⟩:=h
  simp only[jS,Value.cells,bX,h',ae,ak]
 |dD l=>
  have h':=h
  simp only[conv,ab]at h
  obtain⟨a,h1,rfl⟩:=h
  simp only[jS,Value.cells,bX,h',ae,ak]
def zw:Value->Bool
 |.agg _| .tuple _=>false
 |_=>true
theorem w9{x:AV}{v:Value}(h:conv ρ x=some v)(hc:AL x=true):zw v=true:=by
 cases x with
 |p w=>simp only[conv,af]at h;subst h;cases w<;>first|rfl|cases hc
 |agg l=>cases hc
 |dD l=>cases hc
 |ptr o f|mp o|yl o|sl o f n c z=>
  simp only[conv,ab]at h
  obtain⟨a,_,rfl⟩:=h;rfl
 |fn f a c=>
  simp only[conv,aa,ab]at h
  obtain⟨x,h1,y,h2,rfl⟩:=h;rfl
 |rE t y=>
  simp only[conv,ab]at h
  obtain⟨a,h1,rfl⟩:=h;rfl
end
theorem rV{α:Type}{P:Program}:∀{e:Sem α} {a:α},cw P e=some a->∀w,e.run P w=.ok a w:=by
 intro e
 induction e with
 |pure b=>intro a h w;simp only[cw,af]at h;rw[h];rfl
 |program k ih=>intro a h w;rw[cw]at h;exact ih P h w
 |mark m k ih=>intro a h w;rw[cw]at h;exact ih h w
 |_=>intro a h;cases h
end Go.Proofs.YtjfkdglgecgjfaaGreat.R
namespace Go.Proofs.YtjfkdglgecgjfaaGreat.R
open Go.RowKit
structure sA(ρ:lP)(n:Nat)(K:Tr AV)(tmps:Array Value):Prop where
 size:tmps.size=n
 at_:∀t x,K.get t=some x->∃v,conv ρ x=some v/\tmps[t]?=some v
def dU(ρ:lP):List (AV×AV×Nat)->Option (List MapEntry)
 |[]=>some []
 |(k,v,b)::es=>(conv ρ k).bind fun k=>(conv ρ v).bind fun v=>(dU ρ es).map (⟨k,v,b⟩:: ·)
def Rn(fz:Nat×Nat)(n:Nat):Prop:=fz=(0,0)\/n<=fz.1
def iY(ρ:lP)(w:World):AO->Loc->Prop
 |.cells l T,q=>∃cur fz vs,w.heap[q.b]?=some (.cells cur T fz)/\Rn fz cur.size/\q.i+q.n<=cur.size/\l.length<=q.n/\bX ρ l=some vs/\∀(j:Nat) (v:Value),vs[j]?=some v->cur[q.i+j]?=some v
 |.map es c,q=>∃vs,dU ρ es=some vs/\w.heap[q.b]?=some (.map vs.toArray c)
 |.sD m since seen step,q=>q.i=0/\∃lm,ρ m=some lm/\w.heap[q.b]?=some (.mapIter (some lm.b) since seen.toArray step)
 |.X3 s pos,q=>q.i=0/\w.heap[q.b]?=some (.stringIter s pos)
 |.loop st pe fn n K ps fC body d,q=>∃tmps ld,sA ρ n K tmps/\ρ d=some ld/\w.heap[q.b]?=some (.loop {state:=st,pending:=pe,fn:=fn,tmps:=tmps,params:=ps,assign:=fC,body:=body,defers:=ld.b})
 |.XL t,q=>w.heap[q.b]?=some (.deferred (match t with|true=>none|false=>some []))
theorem sA.mono{ρ ρ':lP}(e:Ext ρ ρ'){n:Nat}{K:Tr AV}{tmps:Array Value}(h:sA ρ n K tmps):sA ρ' n K tmps:=
 ⟨h.size,fun t x hx=>let⟨v,h1,h2⟩:=h.at_ t x hx;⟨v,fV e x v h1,h2⟩⟩
theorem CF{ρ ρ':lP}(e:Ext ρ ρ'):∀{es:List (AV×AV×Nat)} {vs:List MapEntry},dU ρ es=some vs->dU ρ' es=some vs
 |[],_,h=>by simpa only[dU]using h
 |(k,v,b)::es,_,h=>by
  simp only[dU,aa,ab]at h ⊢;obtain⟨k',h1,v',h2,l,h3,h4⟩:=h;exact⟨k',fV e _ _ h1,v',fV e _ _ h2,l,CF e h3,h4⟩
theorem iY.mono{ρ ρ':lP}(e:Ext ρ ρ'){w w':World}:∀{x:AO} {q:Loc},w'.heap[q.b]?=w.heap[q.b]?->iY ρ w x q->iY ρ' w' x q
 |.cells l T,q,hw,⟨cur,fz,vs,h1,h2,h3,h4,h5,h6⟩=>⟨cur,fz,vs,hw.trans h1,h2,h3,h4,fc e _ _ h5,h6⟩
 |.map es c,q,hw,⟨vs,h1,h2⟩=>⟨vs,CF e h1,hw.trans h2⟩
 |.sD m since seen step,q,hw,⟨h0,lm,h1,h2⟩=>⟨h0,lm,e _ _ h1,hw.trans h2⟩
 |.X3 s pos,q,hw,h=>⟨h.1,hw.trans h.2⟩
 |.loop st pe fn n K ps fC body d,q,hw,⟨tmps,ld,h1,h2,h3⟩=>⟨tmps,ld,h1.mono e,e _ _ h2,hw.trans h3⟩
 |.XL t,q,hw,h=>hw.trans h
structure Out(w0 w:World):Prop where
 os:w.os=w0.os
 tape:w.tape=w0.tape
 output:w.output=w0.output
 size:w0.heap.size<=w.heap.size
 kept:∀b,b<w0.heap.size->w.heap[b]?=w0.heap[b]?
structure WR(w0:World)(ρ:lP)(h:HS)(w:World):Prop where
 out:Out w0 w
 obj:∀o x q,h.H.get o=some x->ρ o=some q->iY ρ w x q
 inj:∀o o' x x' q q',h.H.get o=some x->h.H.get o'=some x'->ρ o=some q->ρ o'=some q'->q.b=q'.b->o=o'
 base:∀o q,ρ o=some q->w0.heap.size<=q.b/\q.b<w.heap.size
 fresh:∀o,h.nx<=o->ρ o=none/\h.H.get o=none
section
variable {w0 w w':World}{ρ ρ':lP}{h h':HS}
theorem WR.lt(H:WR w0 ρ h w){o:Nat}{q:Loc}(e:ρ o=some q):o<h.nx:=by
 rcases Nat.lt_or_ge o h.nx with k|k
 . exact k
 . rw[(H.fresh o k).1]at e;cases e
theorem WR.lt'(H:WR w0 ρ h w){o:Nat}{x:AO}(e:h.H.get o=some x):o<h.nx:=by
 rcases Nat.lt_or_ge o h.nx with k|k
 . exact k
 . rw[(H.fresh o k).2]at e;cases e
structure pN(w w':World):Prop where
 os:w'.os=w.os
 tape:w'.tape=w.tape
 output:w'.output=w.output
 size:w.heap.size<=w'.heap.size
theorem pN.refl(w:World):pN w w:=⟨rfl,rfl,rfl,Nat.le_refl _⟩
theorem pN.trans{a b c:World}(h:pN a b)(k:pN b c):pN a c:=⟨k.os.trans h.os,k.tape.trans h.tape,k.output.trans h.output,Nat.le_trans h.size k.size⟩
theorem Out.step(h:Out w0 w)(s:pN w w')(k:∀b,b<w0.heap.size->w'.heap[b]?=w.heap[b]?):Out w0 w':=
 ⟨s.os.trans h.os,s.tape.trans h.tape,s.output.trans h.output,Nat.le_trans h.size s.size,fun b hb=>(k b hb).trans (h.kept b hb)⟩
theorem WR.la(H:WR w0 ρ h w){o:Nat}{x:AO}{q:Loc}(s:pN w w')
 (hH:∀o',o'≠o->h'.H.get o'=h.H.get o'\/h'.H.get o'=none) (hx:h'.H.get o=some x)
 (hρ:∀o',o'≠o->ρ' o'=ρ o') (hq:ρ' o=some q) (e:Ext ρ ρ')
 (mQ:∀o' y q',o'≠o->h'.H.get o'=some y->ρ o'=some q'->q'.b≠q.b)
 (fr:∀b,b≠q.b->b<w.heap.size->w'.heap[b]?=w.heap[b]?) (hb:w0.heap.size<=q.b/\q.b<w'.heap.size)
 (nx:h.nx<=h'.nx) (ho:o<h'.nx) (ob:iY ρ' w' x q):WR w0 ρ' h' w':=by
 have old:∀o' y,o'≠o->h'.H.get o'=some y->h.H.get o'=some y:=fun o' y ne hy=>by
  rcases hH o' ne with k|k
  . rw[<- k];exact hy
  . rw[k]at hy;cases hy
 refine⟨H.out.step s fun b hb'=>fr b (by have:=H.out.size;omega) (by have:=H.out.size;omega),fun o' y q' hy hq'=>?_,fun a b y y' qa qb ha hb' hqa hqb eb=>?_,fun o' q' hq'=>?_,fun o' ho'=>?_⟩
 . by_cases ne:o'=o
   . subst ne;rw[hx]at hy;rw[hq]at hq';cases hy;cases hq';exact ob
   . rw[hρ o' ne]at hq'
     have hy0:=old o' y ne hy
     exact(H.obj o' y q' hy0 hq').mono e (fr q'.b (mQ o' y q' ne hy hq') (H.base o' q' hq').2)
 . by_cases na:a=o
   . by_cases nb:b=o
     . rw[na,nb]
     . subst na;rw[hq]at hqa;cases hqa;rw[hρ b nb]at hqb
       exact absurd eb.symm (mQ b y' qb nb hb' hqb)
   . by_cases nb:b=o
     . subst nb;rw[hq]at hqb;cases hqb;rw[hρ a na]at hqa
       exact absurd eb (mQ a y qa na ha hqa)
     . rw[hρ a na]at hqa;rw[hρ b nb]at hqb
       exact H.inj a b y y' qa qb (old a y na ha) (old b y' nb hb') hqa hqb eb
 . by_cases ne:o'=o
   . subst ne;rw[hq]at hq';cases hq';exact hb
   . rw[hρ o' ne]at hq'
     have:=H.base o' q' hq'
     exact⟨this.1,Nat.lt_of_lt_of_le this.2 s.size⟩
 . have ne:o'≠o:=by omega
   have f:=H.fresh o' (Nat.le_trans nx ho')
   refine⟨(hρ o' ne).trans f.1,?_⟩
   rcases hH o' ne with k|k
   . rw[k];exact f.2
   . exact k
theorem WR.same(H:WR w0 ρ h w)(s:pN w w')(k:∀b,b<w.heap.size->w'.heap[b]?=w.heap[b]?):WR w0 ρ h w':=
 ⟨H.out.step s fun b hb=>k b (Nat.lt_of_lt_of_le hb H.out.size),fun o x q hx hq=>(H.obj o x q hx hq).mono (Ext.refl ρ) (k q.b (H.base o q hq).2),H.inj,
  fun o q hq=>⟨(H.base o q hq).1,Nat.lt_of_lt_of_le (H.base o q hq).2 s.size⟩,H.fresh⟩
theorem WR.drew(H:WR w0 ρ h w):WR w0 ρ h w.drew:=H.same ⟨rfl,rfl,rfl,Nat.le_refl _⟩ fun _ _=>rfl
theorem WR.less(H:WR w0 ρ h w)(hH:∀o,h'.H.get o=h.H.get o\/h'.H.get o=none)(nx:h.nx<=h'.nx):WR w0 ρ h' w:=by
 have old:∀o y,h'.H.get o=some y->h.H.get o=some y:=fun o y hy=>by
  rcases hH o with k|k
  . rw[<- k];exact hy
  . rw[k]at hy;cases hy
 refine⟨H.out,fun o x q hx hq=>H.obj o x q (old o x hx) hq,fun a b x y qa qb ha hb=>H.inj a b x y qa qb (old a x ha) (old b y hb),H.base,fun o ho=>?_⟩;have f:=H.fresh o (Nat.le_trans nx ho);refine⟨f.1,?_⟩;rcases hH o with k|k
 . rw[k];exact f.2
 . exact k
def put(ρ:lP)(o:Nat)(q:Loc):lP:=fun o'=>if o'=o then some q else ρ o'
theorem lI{o:Nat}{q:Loc}(hn:ρ o=none):Ext ρ (put ρ o q):=fun o' l hl=>by
 unfold put;by_cases e:o'=o
 . subst e;rw[hn]at hl;cases hl
 . rw[if_neg e];exact hl
theorem kI{o:Nat}{q:Loc}:put ρ o q o=some q:=if_pos rfl
theorem rY{o o':Nat}{q:Loc}(h:o'≠o):put ρ o q o'=ρ o':=if_neg h
theorem nA(w:World)(ob:Obj)(b:Nat):(w.alloc ob).heap[b]?=if b=w.heap.size then some ob else w.heap[b]?:=by
 simp only[World.alloc,Array.getElem?_push]
theorem WR.alloc(H:WR w0 ρ h w){o n:Nat}{x:AO}{ob:Obj}(hx:h.H.get o=some x)(hn:ρ o=none)(hd:w'=w.alloc ob\/w'=w.drew.alloc ob)
 (k:iY (put ρ o ⟨w.heap.size,0,n⟩) w' x ⟨w.heap.size,0,n⟩):WR w0 (put ρ o ⟨w.heap.size,0,n⟩) h w':=by
 have hw:∀b,w'.heap[b]?=if b=w.heap.size then some ob else w.heap[b]?:=fun b=>by
  rcases hd with rfl|rfl
  . exact nA w ob b
  . exact nA w.drew ob b
 have hsz:w'.heap.size=w.heap.size+1:=by rcases hd with rfl|rfl<;>exact Array.size_push ..
 have hs:pN w w':=by rcases hd with rfl|rfl<;>exact⟨rfl,rfl,rfl,by omega⟩
 refine H.la (o:=o) (x:=x) (q:=⟨w.heap.size,0,n⟩) hs (fun _ _=>.inl rfl) hx (fun o' ne=>rY ne) kI (lI hn) (fun o' y q' _ _ hq'=>?_) (fun b ne _=>?_) ⟨H.out.size,by simp only;omega⟩ (Nat.le_refl _) (H.lt' hx) k
 . exact Nat.ne_of_lt (H.base o' q' hq').2
 . rw[hw b,if_neg ne]
theorem WR.set(H:WR w0 ρ h w){o:Nat}{x y:AO}{q:Loc}(hx:h.H.get o=some x)(hq:ρ o=some q)(s:pN w w')(hf:∀b,b≠q.b->w'.heap[b]?=w.heap[b]?)(k:iY ρ w' y q):WR w0 ρ (h.set o y) w':=by
 refine H.la (o:=o) (x:=y) (q:=q) s (fun o' ne=>.inl (dK _ _ ne)) (pj _ _ _) (fun _ _=>rfl) hq (Ext.refl ρ) (fun o' z q' ne hz hq' e=>?_) (fun b ne _=>hf b ne) ⟨(H.base o q hq).1,Nat.lt_of_lt_of_le (H.base o q hq).2 s.size⟩ (Nat.le_refl _) (H.lt' hx) k;have:h.H.get o'=some z:=by simpa only[HS.set,dK _ _ ne]using hz
 exact ne (H.inj o' o z x q' q this hx hq' hq e)
end
end Go.Proofs.YtjfkdglgecgjfaaGreat.R
namespace Go.Proofs.YtjfkdglgecgjfaaGreat.R
open Go.RowKit
def te(ρ:lP):AD->Option Deferred
 |.call f c a=>(bX ρ c).bind fun c=>(bX ρ a).map fun a=>{target:=.fn f c.toArray,args:=a.toArray}
 |.RU o=>(ρ o).map fun l=>{target:=.collected l.b,args:= #[]}
structure jl(h h':HS)(ρ ρ':lP):Prop where
 ext:Ext ρ ρ'
 abh:∀q,q<h.nx->ρ' q=ρ q
 nx:h.nx<=h'.nx
theorem jl.refl{h h':HS}{ρ:lP}(e:h.nx<=h'.nx:=by exact Nat.le_refl _):jl h h' ρ ρ:=⟨Ext.refl ρ,fun _ _=>rfl,e⟩
theorem jl.put{h h':HS}{ρ:lP}{L:Loc}(hn:ρ h.nx=none)(e:h.nx<=h'.nx:=by exact Nat.le_succ _):jl h h' ρ (put ρ h.nx L):=⟨lI hn,fun _ hq=>rY (Nat.ne_of_lt hq),e⟩
def dB(w0:World)(ρ:lP)(h:HS)(w:World)(run:Result Next):AR->Prop
 |.val v=>∃v' w',run=.ok (.value v') w'/\conv ρ v=some v'/\WR w0 ρ h w'
 |.new x mk=>∀h₂ o,WR w0 ρ h₂ w->h₂.H.get o=some x->ρ o=none->∃v' w' q,run=.ok (.value v') w'/\conv (put ρ o q) (mk o)=some v'/\WR w0 (put ρ o q) h₂ w'
 |.la v h'=>∃ρ' v' w',jl h h' ρ ρ'/\(run=.ok (.value v') w'\/run=.ok .skip w'/\v'=undef)/\conv ρ' v=some v'/\WR w0 ρ' h' w'
 |.many l=>∃q∈l,∃ρ' v' w',jl h q.2 ρ ρ'/\run=.ok (.value v') w'/\conv ρ' q.1=some v'/\WR w0 ρ' q.2 w'
 |.enter f args=>∃aS,run=.ok (.enter f aS.toArray) w/\bX ρ args=some aS
 |.round o args=>∀st pe fn n K ps fC body d K',h.H.get o=some (.loop st pe fn n K ps fC body d)->A8 K n ps.toList args=some K'->∃q tmps,ρ o=some q/\run=.ok (.round q.b fn tmps fC body) w/\sA ρ n K' tmps
 |.defer d=>∃d',run=.ok (.defer d') w/\te ρ d=some d'
 |.panic v=>∃v',run=.halt (.panic v') w/\conv ρ v=some v'
 |.recover=>run=.ok .recover w
section
variable {P:Program}{w0 w:World}{ρ:lP}{h:HS}{K:Tr AV}{a:Act}{o:Oper}{r:AR}
def sI(ρ:lP)(K:Tr AV)(a:Act)(op:Op):Prop:=∀x v,x∈op.operands->eB K x=some v->conv ρ v=some (a.eval x)
theorem jx{q f:Nat}{v:Value}(h:conv ρ (.ptr q f)=some v):∃l,ρ q=some l/\v=.pointer (some (addr l f)):=by
 simp only[conv,ab]at h;obtain⟨l,h1,rfl⟩:=h;exact⟨l,h1,rfl⟩
theorem ij{q f n z:Nat}{c:Option Nat}{v:Value}(h:conv ρ (.sl q f n c z)=some v):∃l,ρ q=some l/\v=.slice (some (addr l f)) n (dZ l f z c):=by
 simp only[conv,ab]at h;obtain⟨l,h1,rfl⟩:=h;exact⟨l,h1,rfl⟩
theorem lj{q:Nat}{v:Value}(h:conv ρ (.mp q)=some v):∃l,ρ q=some l/\v=.map (some l.b):=by
 simp only[conv,ab]at h;obtain⟨l,h1,rfl⟩:=h;exact⟨l,h1,rfl⟩
theorem dR{u v:Value}(h:conv ρ (.p u)=some v):v=u:=by
 simp only[conv,af]at h;exact h.symm
theorem CI{l:List AV}{v:Value}(h:conv ρ (.agg l)=some v):∃vs,bX ρ l=some vs/\v=.agg vs.toArray:=by
 simp only[conv,ab]at h;obtain⟨l,h1,rfl⟩:=h;exact⟨l,h1,rfl⟩
theorem I1{l:List AV}{v:Value}(h:conv ρ (.dD l)=some v):∃vs,bX ρ l=some vs/\v=.tuple vs.toArray:=by
 simp only[conv,ab]at h;obtain⟨l,h1,rfl⟩:=h;exact⟨l,h1,rfl⟩
theorem gg{q:Nat}{c:List AV×TypeId}(e:cellsOf h q=some c):h.H.get q=some (.cells c.1 c.2):=by
 simp only[cellsOf,aa]at e;obtain⟨x,h1,h2⟩:=e;cases x<;>simp only[af,reduceCtorEq]at h2;subst h2;exact h1
theorem uy{l l':List AV}{f s:Nat}(e:dG l f s=some l'):l'=(l.drop f).take s/\((l.drop f).take s).length=s:=by
 unfold dG at e;split at e
 . rename_i hb;simp only[af]at e;exact⟨e.symm,ah hb⟩
 . cases e
theorem BI{q:Loc}{cur:Array Value}{T:TypeId}{fz:Nat×Nat}(hh:w.heap[q.b]?=some (.cells cur T fz))(j:Nat):w.cell? ⟨q.b,j,none⟩=cur[j]?:=by
 simp[World.cell?,hh]
theorem Wv{l:List AV}{T t:TypeId}{q:Loc}{f:Nat}{v:AV}(ho:iY ρ w (.cells l T) q)(e:ya P t l f=some v):∃v',conv ρ v=some v'/\(loadVar t (addr q f)).run P w=.ok v' w:=by
 obtain⟨cur,fz,vs,h1,_,_,_,h5,h6⟩:=ho;simp only[ya,aa]at e;obtain⟨⟨ag,s⟩,e1,e2⟩:=e
 cases ag with
 |true=>
  simp only[ab]at e2
  obtain⟨l',e3,rfl⟩:=e2
  obtain⟨rfl,e4⟩:=uy e3
  have hc:=lV s (lS f h5)
  have hl:((vs.drop f).take s).length=s:=by rw[eA hc,e4]
  refine⟨_,by simp only[conv,hc,ak];rfl,zW (by rw[hl];exact e1) fun k u hu=>?_⟩
  rw[BI h1]
  rw[List.getElem?_take]at hu
  split at hu
  . rw[List.getElem?_drop]at hu
    have:=h6 _ _ hu
    rw[Nat.add_assoc];exact this
  . cases hu
 |false=>
  obtain⟨u,hu,hc⟩:=lU h5 e2
  exact⟨u,hc,uT e1 (by rw[BI h1];exact h6 _ _ hu)⟩
theorem JF(H:WR w0 ρ h w){t:TypeId}{x v:AV}{x':Value}(hx:conv ρ x=some x')(e:Dk P h t x=some v):∃ad v',x'= .pointer (some ad)/\conv ρ v=some v'/\(loadVar t ad).run P w=.ok v' w:=by
 cases x with
 |ptr q f=>
  obtain⟨l,hl,rfl⟩:=jx hx
  simp only[Dk,aa]at e
  obtain⟨c,e1,e2⟩:=e
  obtain⟨v',k1,k2⟩:=Wv (H.obj _ _ _ (gg e1) hl) e2
  exact⟨_,v',rfl,k1,k2⟩
 |_=>cases e
theorem Hl{t:TypeId}{x:Operand}(ho:o.op=.load t x)(H:WR w0 ρ h w)(hE:sI ρ K a o.op)(e:cC P h K o=some r):dB w0 ρ h w ((execOp a.eval o).run P w) r:=by
 simp only[cC,ho,aa,ab]at e;obtain⟨y,e1,v,e2,rfl⟩:=e;have hy:=hE x y (by simp[ho,Op.operands]) e1;obtain⟨ad,v',hp,k1,k2⟩:=JF H hy e2;exact⟨v',w,by simp[execOp,ho,Instr.loadAt,hp,Instr.sureAddr,k2],k1,H⟩
theorem CX{l l' cs:List AV}{f:Nat}(e:xp l f cs=some l'):f+cs.length<=l.length/\(∀x∈cs,AL x=true)/\l'=l.take f++cs++l.drop (f+cs.length):=by
 unfold xp at e;split at e
 . rename_i hb;simp only[al,aE]at hb;simp only[af]at e;exact⟨aj hb.1,hb.2,e.symm⟩
 . cases e
theorem LI{q:Loc}{cur:Array Value}{T:TypeId}{fz:Nat×Nat}(hh:w.heap[q.b]?=some (.cells cur T fz))(hf:Rn fz cur.size){j:Nat}(hj:j<cur.size):w.frozen? ⟨q.b,j,none⟩=false:=by
 simp only[World.frozen?,hh];rcases hf with rfl|hf
 . simp
 . simp only[Bool.and_eq_false_iff,bD];left;omega
theorem tR{b:Nat}{T:TypeId}{fz:Nat×Nat}:∀(vs:List Value) (off i:Nat) (cur:Array Value) (w:World),w.heap[b]?=some (.cells cur T fz)->Rn fz cur.size->off+i+vs.length<=cur.size->(∀v∈vs,zw v=true)->
 ∃w' cur',(storeCells ⟨b,off,none⟩ vs i).run P w=.ok () w'/\pN w w'/\(∀b',b'≠b->w'.heap[b']?=w.heap[b']?)/\w'.heap[b]?=some (.cells cur' T fz)/\cur'.size=cur.size/\(∀j,cur'[j]?=if off+i<=j/\j<off+i+vs.length then vs[j-(off+i)]? else cur[j]?):=by
 intro vs
 induction vs with
 |nil=>
  intro off i cur w hh _ _ _
  refine⟨w,cur,rfl,pN.refl w,fun _ _=>rfl,hh,rfl,fun j=>?_⟩
  rw[if_neg];simp only[List.length_nil];omega
 |cons v vs ih=>
  intro off i cur w hh hf hle hc
  simp only[bw]at hle
  have hlt:off+i<cur.size:=by omega
  have had:(⟨b,off,none⟩:Addr).add i=⟨b,off+i,none⟩:=by
   unfold Addr.add;split
   . rename_i e;subst e;rfl
   . rfl
  have hcell:w.cell? ⟨b,off+i,none⟩=some cur[off+i]:=by simp[World.cell?,hh,hlt]
  have hfz:w.frozen? ⟨b,off+i,none⟩=false:=LI (q:=⟨b,0,0⟩) hh hf hlt
  have hw1:(w.setCell ⟨b,off+i,none⟩ v).heap[b]?=some (.cells (cur.setIfInBounds (off+i) v) T fz):=by
   simp[World.setCell,Array.getElem?_modify,hh]
  obtain⟨w',cur',k1,k2,k3,k4,k5,k6⟩:=ih off (i+1) (cur.setIfInBounds (off+i) v) (w.setCell ⟨b,off+i,none⟩ v) hw1 (by simpa using hf) (by simp only[Array.size_setIfInBounds];omega) (fun u hu=>hc u (au _ hu))
  have hst:(store ⟨b,off+i,none⟩ v).run P w=.ok () (w.setCell ⟨b,off+i,none⟩ v):=by
   have hv:=hc v (aq ..)
   cases v with
   |agg c=>exact absurd hv Bool.false_ne_true
   |tuple c=>exact absurd hv Bool.false_ne_true
   |_=>simp[store,Sem.run,hcell,hfz]
  refine⟨w',cur',?_,?_,fun b' hb'=>?_,k4,by rw[k5];simp,fun j=>?_⟩
  . show(do store ((⟨b,off,none⟩:Addr).add i) v;storeCells ⟨b,off,none⟩ vs (i+1):Sem Unit).run P w=_
    rw[had]
    simp[hst,k1]
  . refine pN.trans ?_ k2
    exact⟨rfl,rfl,rfl,by simp[World.setCell]⟩
  . rw[k3 b' hb']
    simp only[World.setCell,Array.getElem?_modify]
    rw[if_neg (fun e=>hb' e.symm)]
  . rw[k6 j]
    simp only[bw]
    by_cases hj:j=off+i
    . subst hj
      rw[if_neg (by omega),if_pos (by omega)]
      simp[hlt]
    . by_cases hj2:off+(i+1)<=j/\j<off+(i+1)+vs.length
      . rw[if_pos hj2,if_pos (by omega)]
        rw[show j-(off+i)=(j-(off+(i+1)))+1 by omega,List.getElem?_cons_succ]
      . rw[if_neg hj2,if_neg (by omega),Array.getElem?_setIfInBounds_ne (by omega)]
theorem BM{l l' cs:List AV}{T:TypeId}{q:Loc}{f:Nat}{us:List Value}(ho:iY ρ w (.cells l T) q)(e:xp l f cs=some l')(hu:bX ρ cs=some us):
 ∃w',(storeCells (addr q f) us).run P w=.ok () w'/\pN w w'/\(∀b,b≠q.b->w'.heap[b]?=w.heap[b]?)/\iY ρ w' (.cells l' T) q:=by
 obtain⟨cur,fz,vs,h1,h2,h3,h4,h5,h6⟩:=ho
 obtain⟨e1,e2,rfl⟩:=CX e
 have hul:=eA hu
 have hvl:=eA h5
 have hc:∀u∈us,zw u=true:=fun u hm=>by
  obtain⟨i,hi⟩:=List.mem_iff_getElem?.1 hm;have hlt:i<cs.length:=by rw[<- hul];exact(List.getElem?_eq_some_iff.1 hi).1
  obtain⟨u',k1,k2⟩:=lU hu (List.getElem?_eq_getElem hlt);rw[hi]at k1;cases k1;exact w9 k2 (e2 _ (aR hlt))
 obtain⟨w',cur',k1,k2,k3,k4,k5,k6⟩:=tR (P:=P) us (q.i+f) 0 cur w h1 h2 (by omega) hc
 refine⟨w',k1,k2,k3,cur',fz,vs.take f++us++vs.drop (f+cs.length),k4,by rw[k5];exact h2,by rw[k5];exact h3,?_,dc (dc (lV f h5) hu) (lS _ h5),fun j v hj=>?_⟩
 . simp only[ay,aM,bh];omega
 . rw[k6]
   have hj':j<vs.length:=by
    have:=(List.getElem?_eq_some_iff.1 hj).1;simp only[ay,aM,bh]at this;omega
   by_cases c1:j<f
   . rw[if_neg (by omega)]
     rw[az,List.getElem?_append_left (by simp only[aM];omega),List.getElem?_take,if_pos c1]at hj
     exact h6 _ _ hj
   . by_cases c2:j<f+us.length
     . rw[if_pos (by omega)]
       rw[az,List.getElem?_append_right (by simp only[aM];omega),List.getElem?_append_left (by simp only[aM];omega)]at hj
       rw[<- hj];congr 1;simp only[aM];omega
     . rw[if_neg (by omega)]
       rw[List.getElem?_append_right (by simp only[ay,aM];omega),List.getElem?_drop]at hj
       rw[<- h6 _ _ hj];congr 1;simp only[ay,aM];omega
theorem DD{t:TypeId}{x y:Operand}(ho:o.op=.store t x y)(H:WR w0 ρ h w)(hE:sI ρ K a o.op)(e:cC P h K o=some r):dB w0 ρ h w ((execOp a.eval o).run P w) r:=by
 simp only[cC,ho,aa]at e;obtain⟨p,e1,v,e2,e⟩:=e;have hp:=hE x p (by simp[ho,Op.operands]) e1;have hv:=hE y v (by simp[ho,Op.operands]) e2
 cases p with
 |ptr q f=>
  obtain⟨l,hl,hp⟩:=jx hp
  simp only[Ei,aa]at e
  obtain⟨c,e3,i,e4,e⟩:=e
  split at e
  . rename_i hb
    simp only[ab]at e
    obtain⟨l',e5,rfl⟩:=e
    have hg:=gg e3
    have hcs:=vV hv
    have hsz:(a.eval y).cells.size=i.size:=by
     rw[<- ah hb,<- eA hcs,Array.length_toList]
    obtain⟨w',k1,k2,k3,k4⟩:=BM (P:=P) (H.obj _ _ _ hg hl) e5 hcs
    refine⟨ρ,undef,w',jl.refl,.inr ⟨?_,rfl⟩,rfl,H.set hg hl k2 k3 k4⟩
    simp[execOp,ho,Instr.storeAt,hp,Instr.sureAddr,storeVar,sizeOf,typeInfo,e4,hsz,k1]
  . cases e
 |_=>cases e
end
end Go.Proofs.YtjfkdglgecgjfaaGreat.R
namespace Go.Proofs.YtjfkdglgecgjfaaGreat.R
open Go.RowKit
section
variable {P:Program}{w0 w:World}{ρ:lP}{h:HS}{K:Tr AV}{a:Act}{o:Oper}{r:AR}
theorem uN{l:List AV}{T:TypeId}{vs:List Value}(hl:bX ρ l=some vs){h₂:HS}{q:Nat}(H:WR w0 ρ h₂ w)(hx:h₂.H.get q=some (.cells l T))(hn:ρ q=none):
 WR w0 (put ρ q ⟨w.heap.size,0,vs.length⟩) h₂ (w.alloc (.cells vs.toArray T)):=by
 refine H.alloc hx hn (.inl rfl) ⟨vs.toArray,(0,0),vs,by rw[nA,if_pos rfl],.inl rfl,by simp,by simp[eA hl],fc (lI hn) _ _ hl,fun j v hj=>?_⟩
 simpa using hj
theorem xb{q:Nat}{l:Loc}{f:Nat}:conv (put ρ q l) (.ptr q f)=some (.pointer (some (addr l f))):=by
 simp only[conv,kI,ak]
theorem AQ{q:Nat}{l:Loc}{f n c z:Nat}:conv (put ρ q l) (.sl q f n (some c) z)=some (.slice (some (addr l f)) n c):=by
 simp only[conv,kI,ak,dZ]
theorem wN{t:TypeId}{z:Array Value}(e:uh P t=some z):∃zv,(P.info? t).map (·.zero)=some (some zv)/\zv.cells=z:=by
 simp only[uh,aa,ab]at e;obtain⟨i,e1,zv,e2,e3⟩:=e;exact⟨zv,by rw[e1,ak,e2],e3⟩
theorem xZ{x:Operand}(ho:o.op=.move x\/o.op=.assign x)(H:WR w0 ρ h w)(hE:sI ρ K a o.op)(e:cC P h K o=some r):dB w0 ρ h w ((execOp a.eval o).run P w) r:=by
 rcases ho with ho|ho<;>
 . simp only[cC,ho,ab]at e;obtain⟨v,e1,rfl⟩:=e;exact⟨a.eval x,w,by simp[execOp,ho,Sem.run_pure],hE x v (by simp[ho,Op.operands]) e1,H⟩
theorem Hn{c x y:Operand}(ho:o.op=.pick c x y)(H:WR w0 ρ h w)(hE:sI ρ K a o.op)(e:cC P h K o=some r):dB w0 ρ h w ((execOp a.eval o).run P w) r:=by
 simp only[cC,ho,aa]at e;obtain⟨v,e1,e⟩:=e;have hc:=hE c v (by simp[ho,Op.operands]) e1;split at e
 . simp only[ab]at e;obtain⟨u,e2,rfl⟩:=e;have hc:=dR hc;exact⟨a.eval x,w,by simp[execOp,ho,hc,asBool,Sem.run_pure],hE x u (by simp[ho,Op.operands]) e2,H⟩
 . simp only[ab]at e;obtain⟨u,e2,rfl⟩:=e;have hc:=dR hc;exact⟨a.eval y,w,by simp[execOp,ho,hc,asBool,Sem.run_pure],hE y u (by simp[ho,Op.operands]) e2,H⟩
 . cases e
theorem Dw{t:TypeId}(ho:o.op=.alloc t)(e:cC P h K o=some r):dB w0 ρ h w ((execOp a.eval o).run P w) r:=by
 simp only[cC,ho,ab]at e;obtain⟨z,e1,rfl⟩:=e;obtain⟨zv,hz,rfl⟩:=wN e1;intro h₂ q H2 hx hn;have:=uN (l:=zv.cells.toList.map .p) (T:=t) (nr _) H2 hx hn;refine⟨.pointer (some ⟨w.heap.size,0,none⟩),_,_,?_,xb,this⟩;simp[execOp,ho,Instr.alloc,mH hz,newVar,newRow,newObj,Sem.run]
theorem Mf{t:TypeId}{x:Operand}(ho:o.op=.box t x)(hE:sI ρ K a o.op)(e:cC P h K o=some r):dB w0 ρ h w ((execOp a.eval o).run P w) r:=by
 simp only[cC,ho,ab]at e;obtain⟨v,e1,rfl⟩:=e;have hv:=hE x v (by simp[ho,Op.operands]) e1;intro h₂ q H2 hx hn;have:=uN (vV hv) H2 hx hn;refine⟨.pointer (some ⟨w.heap.size,0,none⟩),_,_,?_,xb,this⟩;simp[execOp,ho,Instr.box,newVar,newRow,newObj,Sem.run]
def E9(ρ:lP):List (Nat×AV)->Option (List (Nat×Value))
 |[]=>some []
 |(i,x)::l=>(conv ρ x).bind fun v=>(E9 ρ l).map ((i,v):: ·)
theorem C6(cs vs:Array Value)(off:Nat)(h:off+vs.size<=cs.size):vs.zipIdx.foldl (fun cs (x:Value×Nat)=>cs.setIfInBounds (off+x.2) x.1) cs=(cs.toList.take off++vs.toList++cs.toList.drop (off+vs.size)).toArray:=by
 rw[<- Array.foldl_toList,Array.toList_zipIdx];obtain⟨h1,h2⟩:=Great.foldl_set off vs.toList 0 cs;apply Array.ext_getElem?;intro i;rw[h2 i];have hl:(cs.toList.take off).length=off:=by simp;omega
 have hv:vs.toList.length=vs.size:=by simp
 rw[az];simp only[List.getElem?_toArray,Nat.add_zero,hv];by_cases h3:i<off
 . rw[if_neg (by omega),List.getElem?_append_left (by omega),List.getElem?_take,if_pos h3];simp
 . rw[List.getElem?_append_right (by omega),hl];by_cases h4:i<off+vs.size
   . rw[if_pos (by omega),List.getElem?_append_left (by omega)]
   . rw[if_neg (by omega),List.getElem?_append_right (by omega),List.getElem?_drop,hv];simp only[Array.getElem?_toList];rw[show off+vs.size+(i-off-vs.size)=i by omega]
theorem xo(place:Nat->Option (Nat×Nat)):∀{ps:List (Nat×AV)} {qs:List (Nat×Value)} {l l':List AV} {vs:List Value},CW place l ps=some l'->E9 ρ ps=some qs->bX ρ l=some vs->
 ∃vs',Instr.fill place vs.toArray qs=some vs'.toArray/\bX ρ l'=some vs'
 |[],qs,l,l',vs,e,hp,hl=>by
  simp only[CW,af]at e;simp only[E9,af]at hp;subst e;subst hp;exact⟨vs,by simp[Instr.fill],hl⟩
 |(i,x)::ps,qs,l,l',vs,e,hp,hl=>by
  simp only[E9,aa,ab]at hp;obtain⟨v,hv,qs',hq,rfl⟩:=hp;simp only[CW,aa]at e;obtain⟨⟨off,size⟩,e1,e⟩:=e;split at e
  . rename_i hb;simp only[aa]at e;obtain⟨l1,e2,e3⟩:=e;have hc:=vV hv;have hcl:=eA hc;obtain⟨f1,_,rfl⟩:=CX e2;have hll:=eA hl;have hsz:v.cells.size=size:=by
     have:=ah hb;rw[<- hcl,Array.length_toList]at this;exact this
    have hl1:=dc (dc (lV off hl) hc) (lS (off+(jS x).length) hl);obtain⟨vs',k1,k2⟩:=xo place e3 hq hl1;refine⟨vs',?_,k2⟩;rw[Instr.fill];simp only[e1];have hle:off+v.cells.size<=vs.toArray.size:=by
     have:=hcl;rw[Array.length_toList]at this;have h4:vs.toArray.size=vs.length:=List.size_toArray ..; omega
    rw[if_neg (by simp only[hsz,ne_eq,not_true,decide_false,Bool.false_or,aJ];rw[<- hsz];omega),C6 _ _ _ hle,<- k1];congr 3;rw[<- Array.length_toList,hcl]
  . cases e
theorem zP:∀{l:List (Nat×Operand)} {ps:List (Nat×AV)},tI K l=some ps->(∀p∈l,∀v,eB K p.2=some v->conv ρ v=some (a.eval p.2))->E9 ρ ps=some (l.map fun p=>(p.1,a.eval p.2))
 |[],ps,e,_=>by simp only[tI,af]at e;subst e;rfl
 |(i,x)::l,ps,e,hE=>by
  simp only[tI,aa,ab]at e;obtain⟨v,e1,ps',e2,rfl⟩:=e;simp only[E9,hE (i,x) (aq ..) v e1,ae,zP e2 fun p hp=>hE p (au _ hp),ak,aF]
theorem DM:∀{l:List Field} {pl:List (Nat×Nat)},yc P l=some pl->l.mapM (fun f=>(P.info? f.type).map fun i=>(f.offset,i.size))=some pl
 |[],pl,e=>by simp only[yc,af]at e;subst e;rfl
 |x::l,pl,e=>by
  simp only[yc,aa,ab]at e;obtain⟨i,e1,pl',e2,rfl⟩:=e;simp[List.mapM_cons,e1,DM e2]
theorem J1{ps:Array (Nat×Operand)}(hm:∀p∈ps,p.2∈o.op.operands)(hE:sI ρ K a o.op):∀p∈ps.toList,∀v,eB K p.2=some v->conv ρ v=some (a.eval p.2):=
 fun p hp v hv=>hE p.2 v (hm p (by simpa using hp)) hv
theorem Dx{t:TypeId}{ps:Array (Nat×Operand)}(ho:o.op=.build t ps)(H:WR w0 ρ h w)(hE:sI ρ K a o.op)(e:cC P h K o=some r):dB w0 ρ h w ((execOp a.eval o).run P w) r:=by
 simp only[cC,ho,aa]at e;obtain⟨qs,e1,e⟩:=e;have hp:=zP e1 (J1 (fun p hp=>by simp only[ho,Op.operands,List.mem_toArray,List.mem_map];exact⟨p,by simpa using hp,rfl⟩) hE);have hp':(ps.toList.map fun p=>(p.1,a.eval p.2))=(ps.map fun(x:Nat×Operand)=>(x.1,a.eval x.2)).toList:=by rw[Array.toList_map]
 rw[hp']at hp;simp only[K4,aa]at e;obtain⟨z,e2,e⟩:=e;obtain⟨zv,hz,rfl⟩:=wN e2;obtain⟨inf,hi,hzi⟩:∃i,P.info? t=some i/\i.zero=some zv:=by
  cases hh:P.info? t with
  |none=>rw[hh]at hz;cases hz
  |some i=>rw[hh]at hz;exact⟨i,rfl,by simpa using hz⟩
 have fin:∀cells,P.built t (ps.map fun(x:Nat×Operand)=>(x.1,a.eval x.2)).toList=some cells->(execOp a.eval o).run P w=.ok (.value (.agg cells)) w:=fun cells hc=>by
  simp only[execOp,ho,Sem.run_bind,run_build (P:=P) w t _ _ hc,Result.andThen_ok,Sem.run_pure]
 split at e
 . rename_i fs hu;simp only[aa,ab]at e;obtain⟨pl,e3,l,e4,rfl⟩:=e;obtain⟨vs,k1,k2⟩:=xo _ e4 hp (nr zv.cells.toList);refine⟨_,w,fin vs.toArray ?_,by simp only[conv,k2,ak],H⟩;simp only[Program.built,hi,hu,hzi,DM e3];rw[<- k1];congr 1;funext i;simp
 . rename_i n el hu;simp only[aa,ab]at e;obtain⟨ie,e3,l,e4,rfl⟩:=e;obtain⟨vs,k1,k2⟩:=xo _ e4 hp (nr zv.cells.toList);refine⟨_,w,fin vs.toArray ?_,by simp only[conv,k2,ak],H⟩;simp only[Program.built,hi,hu,hzi,e3];rw[<- k1]
 . cases e
theorem vd(z:Array Value)(n:Nat):bX ρ (Ax z n)=some ((List.range n).map fun i=>z[i % z.size]!):=by
 have:=nr (ρ:=ρ) ((List.range n).map fun i=>z[i % z.size]!);rwa[List.map_map]at this
theorem Ay(z:Array Value)(n:Nat):(Array.range n).map (fun i=>z[i % z.size]!)=((List.range n).map fun i=>z[i % z.size]!).toArray:=by
 apply Array.ext';simp
theorem p7{t:TypeId}{len:Nat}{ps:Array (Nat×Operand)}(ho:o.op=.buildSlice t len ps)(hE:sI ρ K a o.op)(e:cC P h K o=some r):dB w0 ρ h w ((execOp a.eval o).run P w) r:=by
 simp only[cC,ho,aa]at e;obtain⟨qs,e1,e⟩:=e;have hp:=zP e1 (J1 (fun p hp=>by simp only[ho,Op.operands,List.mem_toArray,List.mem_map];exact⟨p,by simpa using hp,rfl⟩) hE);simp only[sR]at e;split at e
 . rename_i el hu;simp only[aa]at e;obtain⟨i,e2,z,e3,e⟩:=e;split at e
   . rename_i hb;simp only[al]at hb;have b1:=aj hb.1;have b2:=aj hb.2;simp only[ab]at e;obtain⟨l,e4,rfl⟩:=e;obtain⟨zv,hz,rfl⟩:=wN e3;obtain⟨vs,k1,k2⟩:=xo _ e4 hp (vd zv.cells (len*i.size));intro h₂ q H2 hx hn;have:=uN k2 H2 hx hn;refine⟨.slice (some ⟨w.heap.size,0,none⟩) len len,_,_,?_,AQ,this⟩;have hz':=mH (w:=w) hz;have hn0:¬ 2 ^ 24<len*i.size:=by omega
     have k1':Instr.fill (fun i_1=>some (i_1*i.size,i.size)) ((Array.range (len*i.size)).map fun i=>zv.cells[i % zv.cells.size]!) (ps.map fun(x:Nat×Operand)=>(x.1,a.eval x.2)).toList=some vs.toArray:=by rw[Array.toList_map,Ay];exact k1
     by_cases h0:len*i.size=0
     . have hz0:∀f:Nat->Value,(Array.range (len*i.size)).map f= #[]:=fun f=>by rw[h0];simp
       rw[hz0]at k1';simp only[execOp,ho,Instr.buildSlice,Sem.run_bind,run_underlying hu,Result.andThen_ok,sizeOf,typeInfo,run_program,e2,Sem.run_pure,if_neg hn0,if_pos h0,hz0,k1',newRow,newObj,Sem.run];rfl
     . simp only[execOp,ho,Instr.buildSlice,Sem.run_bind,run_underlying hu,Result.andThen_ok,sizeOf,typeInfo,run_program,e2,Sem.run_pure,if_neg hn0,if_neg h0,hz',k1',newRow,newObj,Sem.run];rfl
   . cases e
 . cases e
end
end Go.Proofs.YtjfkdglgecgjfaaGreat.R
