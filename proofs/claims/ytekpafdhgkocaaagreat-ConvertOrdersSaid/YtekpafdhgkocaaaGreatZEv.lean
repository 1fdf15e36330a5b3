/- Part of the proof. -/
import Derived.Test.YtekpafdhgkocaaaGreatZRange
namespace Go.Proofs.YtekpafdhgkocaaaGreat
open Go.RowKit G
namespace E
inductive Co where
 |int (k:IntKind)
 |u8
 |bo
 |str
 |sl (c:Co)
 |st (i:Nat)
 |a8 (n:Nat)
 |ai (n:Nat) (k:IntKind)
 |mp (k v:Co)
 deriving DecidableEq,Inhabited
def T(S:Nat->Type):Co->Type
 |.int _=>Int
 |.u8=>UInt8
 |.bo=>Bool
 |.str=>List UInt8
 |.sl c=>List (T S c)
 |.st i=>S i
 |.a8 _=>Nat->UInt8
 |.ai _ _=>Nat->Int
 |.mp k v=>List (T S k×T S v)
def HL(S:Nat->Type):List Co->Type
 |[]=>Unit
 |c::cs=>T S c×HL S cs
def HT(S:Nat->Type):List Co->Type
 |[]=>Unit
 |[c]=>T S c
 |c::d::cs=>T S c×HT S (d::cs)
variable (S:Nat->Type)
inductive CV where
 |int (k:IntKind) (x:Int)
 |u8 (x:UInt8)
 |bo (b:Bool) (p:Prop) (d:Decidable p) (h:b=true↔p)
 |tt (b:Bool)
 |str (l:List UInt8)
 |sl (c:Co) (l:List (T S c))
 |slF (c:Co) (l:List (T S c))
 |rw(o:Nat) (c:Co) (l:List (T S c))
 |aw (o:Nat)
 |fQ
 |a8 (n:Nat) (f:Nat->UInt8)
 |ai (n:Nat) (k:IntKind) (f:Nat->Int)
 |ptr (o off:Nat)
 |l7
 |el (c:Co) (x:T S c) (off:Nat)
 |Rd (o:Nat) (v:Nat) (c:Co) (x:T S c) (j:Int) (off:Nat)
 |WV (o off n:Nat) (i:Int)
 |px (o off n:Nat) (i j:Int)
 |fn (f:Fn) (first caps:List CV)
 |ag (xs:List CV)
 |dY
 |B4
 |Gg
 |yl (o:Nat)
 |na (e neg:Bool)
 |rz (o:Nat) (c:Co) (n:Int)
 |pt (o:Nat) (c:Co) (off n:Int)
 |mp (o:Nat)
 |stp (o q:Nat)
 |ZS (q:Nat)
 deriving Inhabited
inductive AV where
 |one (v:CV S)
 |agg (vs:List (CV S))
 |mf (vs:List AV)
 deriving Inhabited
def AV.ux:AV S:=.mf []
inductive V7 where
 |normal
 |ret
 |exit (n:Nat)
inductive LS where
 |ready
 |busy
 |done (e:V7)
def LS.same:LS->LS->Bool
 |.ready,.ready=>true
 |.busy,.busy=>true
 |.done .normal,.done .normal=>true
 |.done .ret,.done .ret=>true
 |.done (.exit n),.done (.exit k)=>Nat.beq n k
 |_,_=>false
inductive AO where
 |box (T:TypeId) (cs:List (CV S))
 |row (e:TypeId) (c:Co)
 |arr (e:TypeId) (c:Co) (full:Bool) (l:List (T S c))
 |loop (r:Nat) (st:LS) (tm:List (Nat×Nat×AV S))
 |map (t:TypeId) (kc vc:Co) (l:List (T S kc×T S vc)) (hole:Option (T S kc×Nat))
 |fk (t et:TypeId) (kc c:Co) (l:List (T S kc×List (T S c))) (hole:Option (T S kc))
 |Mq (t:TypeId) (kc:Co) (l:List (T S kc×CV S))
 |sJ (t:TypeId) (kc vc:Co) (l:List (T S kc×T S vc)) (hole:Option (T S kc×Nat)) (q:Nat)
 |IK (kc:Co) (o:Nat) (st:Option (Option (T S kc)))
 deriving Inhabited
structure AS where
 tm:List (Nat×Nat×AV S)
 ob:List (Nat×Nat×AO S)
 ct:Nat
 fb:Nat
 rt:List Nat
structure SD(σ:Type) where
 fs:List Co
 to:σ->HL S fs
 of:HL S fs->σ
variable {S}
def look{α:Type}(t:Nat):List (Nat×α)->Option α
 |[]=>none
 |(u,x)::l=>match Nat.beq u t with|true=>some x|false=>look t l
def drop1{α:Type}(t:Nat):List (Nat×α)->List (Nat×α)
 |[]=>[]
 |(u,x)::l=>match Nat.beq u t with|true=>l|false=>(u,x)::drop1 t l
inductive TD where
 |int (k:IntKind)
 |bool
 |str
 |ptr (e:TypeId)
 |slice (e:TypeId)
 |array (n:Nat) (e:TypeId)
 |struct (fs:List (TypeId×Nat×Nat))
 |func
 |iface
 |map (k v:TypeId)
 deriving Inhabited
variable (S)
structure TI where
 d:TD
 size:Nat
 bytes:Nat
 zero:List (CV S)
 co:Co:=.bo
 eq:Bool:=false
 deriving Inhabited
variable {S}
def ml:TD->Bool
 |.struct _=>true
 |.array _ _=>true
 |_=>false
def CV.n:CV S->Nat
 |.a8 n _=>n
 |.ai n _ _=>n
 |_=>1
def zj:AV S->Option (List (CV S))
 |.one v=>some [v]
 |.agg vs=>some vs
 |.mf _=>none
def Aq:Nat->List (CV S)->Option (List (CV S))
 |0,_=>some []
 |_+1,[]=>none
 |n+1,v::vs=>match Nat.ble v.n (n+1)with|true=>(Aq (n+1-v.n) vs).map (v:: ·)|false=>none
def cutAt:Nat->List (CV S)->Option (List (CV S))
 |0,vs=>some vs
 |_+1,[]=>none
 |o+1,v::vs=>match Nat.ble v.n (o+1)with|true=>cutAt (o+1-v.n) vs|false=>none
def Ci:Nat->List (CV S)->Option (CV S)
 |_,[]=>none
 |o,v::vs=>match Nat.ble v.n o with
  |true=>Ci (o-v.n) vs
  |false=>match v with
   |.a8 _ f=>some (.u8 (f o))
   |.ai _ k f=>some (.int k (f o))
   |v=>some v
def acu(o n:Nat)(xs vs:List (CV S)):Option (List (CV S)):=
 (Aq o vs).bind fun a=>(cutAt (o+n) vs).map fun b=>a++(xs++b)
def X4:Nat->CV S->List (CV S)->Option (List (CV S))
 |_,_,[]=>none
 |o,x,v::vs=>match Nat.ble v.n o with
  |true=>(X4 (o-v.n) x vs).map (v:: ·)
  |false=>match v,x with
   |.a8 n f,.u8 y=>some (.a8 n (b7 f o y)::vs)
   |.ai n k f,.int k' y=>match decEq k' k with|isTrue _=>some (.ai n k (b7 f o y)::vs)|isFalse _=>none
   |.a8 _ _,_=>none
   |.ai _ _ _,_=>none
   |_,x=>some (x::vs)
def SJ(vs:List (CV S)):Nat:=(vs.map CV.n).sum
variable (S) in
abbrev Tb:=(i:Nat)->SD S (S i)
variable (tb:Tb S)
def toCV:(c:Co)->T S c->CV S
 |.int k,x=>.int k x
 |.u8,x=>.u8 x
 |.bo,(b:Bool)=>.bo b (b=true) inferInstance Iff.rfl
 |.str,l=>.str l
 |.sl c,l=>.sl c l
 |.st _,_=>.Gg
 |.a8 n,f=>.a8 n f
 |.ai n k,f=>.ai n k f
 |.mp _ _,_=>.Gg
def toCVs:(cs:List Co)->HL S cs->List (CV S)
 |[],_=>[]
 |c::cs,h=>toCV c h.1::toCVs cs h.2
def S4:(c:Co)->T S c->List (CV S)
 |.st i,x=>toCVs (tb i).fs ((tb i).to x)
 |c,x=>[toCV c x]
def P9:(cs:List Co)->HL S cs->HL S cs->Bool
 |[],_,_=>true
 |.int _::cs,a,b=>cX a.1 b.1&&P9 cs a.2 b.2
 |_::_,_,_=>false
def qC:(c:Co)->T S c->T S c->Bool
 |.int _=>cX
 |.str=>YF
 |.st i=>fun x y=>P9 (tb i).fs ((tb i).to x) ((tb i).to y)
 |_=>fun _ _=>false
def Ga:Co->Bool
 |.int .u8=>false
 |.int _=>true
 |.str=>true
 |.st i=>(tb i).fs.all fun c=>match c with| .int .u8=>false| .int _=>true|_=>false
 |_=>false
def Uv:Co->Bool
 |.int _=>true
 |.u8=>true
 |.bo=>true
 |.str=>true
 |_=>false
def qt{a b c d:Co}(h:a=c)(k:b=d)(l:List (T S a×T S b)):List (T S c×T S d):=h▸k▸l
def II{a b c d:Co}(h:a=c)(k:b=d)(l:List (T S a×List (T S b))):List (T S c×List (T S d)):=h▸k▸l
def xp{c d:Co}(h:c=d)(l:List (T S c)):List (T S d):=h▸l
def Vy:(c:Co)->CV S->Option (T S c)
 |.int k,.int k' x=>match decEq k k' with|isTrue _=>some x|isFalse _=>none
 |.u8,.u8 x=>some x
 |.bo,.bo b _ _ _=>some b
 |.bo,.tt b=>some b
 |.str,.str l=>some l
 |.sl c,.sl d l=>match decEq d c with|isTrue h=>some (xp h l)|isFalse _=>none
 |.sl c,.slF d l=>match decEq d c with|isTrue h=>some (xp h l)|isFalse _=>none
 |.sl c,.rw _ d l=>match decEq d c with|isTrue h=>some (xp h l)|isFalse _=>none
 |.sl _,.fQ=>some []
 |.a8 n,.a8 n' f=>match Nat.beq n n'&&Nat.ble 1 n with|true=>some f|false=>none
 |.ai n k,.ai n' k' f=>match Nat.beq n n'&&Nat.ble 1 n,decEq k k' with|true,isTrue _=>some f|_,_=>none
 |_,_=>none
def Nj:(cs:List Co)->List (CV S)->Option (HL S cs×List (CV S))
 |[],vs=>some ((),vs)
 |_::_,[]=>none
 |c::cs,v::vs=>(Vy c v).bind fun x=>(Nj cs vs).map fun p=>((x,p.1),p.2)
def pk:(c:Co)->List (CV S)->Option (T S c×List (CV S))
 |.st i,vs=>(Nj (tb i).fs vs).map fun p=>((tb i).of p.1,p.2)
 |_,[]=>none
 |c,v::vs=>(Vy c v).map fun x=>(x,vs)
def JT(c:Co)(vs:List (CV S)):Option (T S c):=(pk tb c vs).bind fun p=>match p.2 with| []=>some p.1|_::_=>none
def slv(c:Co):CV S->Option (List (T S c)):=Vy (.sl c)
def num:CV S->Option (IntKind×Int)
 |.int k x=>match k with| .u8=>none|k=>some (k,x)
 |.u8 x=>some (.u8,(x.toNat:Int))
 |_=>none
def Re(k:IntKind)(x:Int):CV S:=match k with| .u8=>.u8 (G.u8 x)|k=>.int k x
def wrI(k:IntKind)(x:Int):CV S:=match k with| .u8=>.u8 (G.u8 x)|k=>.int k (k.wrap x)
def Zv(p:Prop)[d:Decidable p]:CV S:=.bo (decide p) p d (decide_eq_true_iff)
def Zs{α:Type}[DecidableEq α][BEq α][LawfulBEq α](a b:α):CV S:=.bo (a == b) (a=b) inferInstance beq_iff_eq
def Zu{α:Type}[DecidableEq α][BEq α][LawfulBEq α](a b:α):CV S:=.bo (a !=b) (a≠b) inferInstance bne_iff_ne
def boB(b:Bool):CV S:=.bo b (b=true) inferInstance Iff.rfl
def Zt(b:Bool):CV S:=.bo (!b) (b=false) inferInstance (by cases b<;>simp)
def bit:CV S->Option Bool
 |.bo b _ _ _=>some b
 |.tt b=>some b
 |_=>none
def isNil:CV S->Option Bool
 |.l7=>some true
 |.dY=>some true
 |.B4=>some true
 |.Gg=>some true
 |.fQ=>some true
 |.ptr _ _=>some false
 |.fn _ _ _=>some false
 |.rw _ _ (_::_)=>some false
 |_=>none
def FX:List (CV S)->List (CV S)->Option (PSigma fun p:Prop=>Decidable p)
 |[.int _ x],[.int _ y]=>some ⟨x=y,inferInstance⟩
 |[.u8 x],[.u8 y]=>some ⟨(x.toNat:Int)=(y.toNat:Int),inferInstance⟩
 |.int _ x::v::vs,.int _ y::w::ws=>(FX (v::vs) (w::ws)).map fun p=>⟨x=y/\p.1,@instDecidableAnd _ _ inferInstance p.2⟩
 |.u8 x::v::vs,.u8 y::w::ws=>(FX (v::vs) (w::ws)).map fun p=>⟨(x.toNat:Int)=(y.toNat:Int)/\p.1,@instDecidableAnd _ _ inferInstance p.2⟩
 |[v],[w]=>(bit v).bind fun x=>(bit w).map fun y=>⟨x=y,inferInstance⟩
 |v::v'::vs,w::w'::ws=>(bit v).bind fun x=>(bit w).bind fun y=>(FX (v'::vs) (w'::ws)).map fun p=>⟨x=y/\p.1,@instDecidableAnd _ _ inferInstance p.2⟩
 |_,_=>none
def kindOk:List (CV S)->List (CV S)->Bool
 |[],[]=>true
 |.int k _::z,.int k' _::v=>decide (k=k')&&kindOk z v
 |.u8 _::z,.u8 _::v=>kindOk z v
 |.tt _::z,.bo _ _ _ _::v=>kindOk z v
 |.tt _::z,.tt _::v=>kindOk z v
 |_,_=>false
def Ov:Operand->Bool
 |.const (.int _ n)=>decide (0<n)
 |_=>false
def TU:Operand->Bool
 |.const (.int _ n)=>decide (0<=n)
 |_=>false
section
variable {γ:Type}
def ifB(v:CV S)(k:Bool->Option γ):Option γ:=match v with
 |.tt b=>k b
 |.bo _ p d _=>@ite _ p d (k true) (k false)
 |_=>none
def Vx(op:BinOp)(kv kw:IntKind)(x z:Int)(y:Operand)(k:CV S->Option γ):Option γ:=
 match op with
 |.shl=>(match TU y with|true=>k (Re kv (yw kv x z))|false=>(rL (0<=z)).bind fun _=>k (Re kv (yw kv x z)))
 |.shr=>(match TU y with|true=>k (Re kv (jB kv x z))|false=>(rL (0<=z)).bind fun _=>k (Re kv (jB kv x z)))
 |op=>match decEq kv kw with
  |isFalse _=>none
  |isTrue _=>match op with
   |.lss=>k (Zv (x<z))
   |.leq=>k (Zv (x<=z))
   |.gtr=>k (Zv (x>z))
   |.geq=>k (Zv (x≥z))
   |.eql=>k (Zs x z)
   |.neq=>k (Zu x z)
   |.add=>k (wrI kv (x+z))
   |.sub=>k (wrI kv (x-z))
   |.mul=>k (wrI kv (x*z))
   |.and=>k (Re kv (ea kv x z))
   |.or=>k (Re kv (RE kv x z))
   |.xor=>k (Re kv (jq kv x z))
   |.andNot=>k (Re kv (Tg kv x z))
   |.quo=>(match Ov y with|true=>k (wrI kv (Int.tdiv x z))|false=>(rL (z≠0)).bind fun _=>k (wrI kv (Int.tdiv x z)))
   |.rem=>match kv with
    |.u8=>none
    |kv=>(match Ov y with|true=>k (.int kv (Int.tmod x z))|false=>(rL (z≠0)).bind fun _=>k (.int kv (Int.tmod x z)))
   |_=>none
def yn(op:BinOp)(a b:CV S)(k:CV S->Option γ):Option γ:=match op with
 |.eql=>k a
 |.neq=>k b
 |_=>none
def eqK(tt:TypeId->Option (TI S))(op:BinOp)(xT:TypeId)(a b:AV S)(k:CV S->Option γ):Option γ:=
 (tt xT).bind fun ti=>match ti.d,a,b with
 |.str,.one (.str x),.one (.str z)=>yn op (Zv (x=z)) (Zt (decide (x=z))) k
 |.bool,.one v,.one w=>(bit v).bind fun x=>(bit w).bind fun z=>yn op (Zs x z) (Zu x z) k
 |.ptr _,.one .l7,.one .l7=>yn op (.tt true) (.tt false) k
 |.ptr _,.one (.ptr _ _),.one .l7=>yn op (.tt false) (.tt true) k
 |.ptr _,.one .l7,.one (.ptr _ _)=>yn op (.tt false) (.tt true) k
 |.func,.one .dY,.one .dY=>yn op (.tt true) (.tt false) k
 |.func,.one (.fn _ _ _),.one .dY=>yn op (.tt false) (.tt true) k
 |.slice _,.one .fQ,.one .fQ=>yn op (.tt true) (.tt false) k
 |.slice _,.one (.sl _ l),.one .fQ=>yn op (.na l.isEmpty false) (.na l.isEmpty true) k
 |.slice _,.one (.rw _ _ (_::_)),.one .fQ=>yn op (.tt false) (.tt true) k
 |.array n e,.agg [.a8 n1 f],.agg [.a8 n2 g]=>(tt e).bind fun ei=>match ei.d,Nat.beq n 32&&Nat.beq n1 32&&Nat.beq n2 32&&ti.eq with
  |.int .u8,true=>yn op (boB (uM f g)) (Zt (uM f g)) k
  |_,_=>none
 |.struct _,.agg vs,.agg ws=>match ti.eq&&kindOk ti.zero vs&&kindOk ti.zero ws with
  |true=>(FX vs ws).bind fun p=>yn op (@Zv _ p.1 p.2) (Zt (@decide p.1 p.2)) k
  |false=>none
 |_,_,_=>none
def UM(tt:TypeId->Option (TI S))(op:BinOp)(xT:TypeId)(y:Operand)(a b:AV S)(k:CV S->Option γ):Option γ:=
 match a,b with
 |.one v,.one w=>
  match num v,num w with
  |some (kv,x),some (kw,z)=>Vx op kv kw x z y k
  |_,_=>eqK tt op xT a b k
 |_,_=>eqK tt op xT a b k
end
inductive CS where
 |da (c:Co)
 |rw(o:Nat) (c:Co)
 |aw (o:Nat)
 |ptr (o off:Nat)
 |l7
 |dY
 |fn (f:FuncId) (first caps:List CS)
 |tt (b:Bool)
 |fQ
 |yl (o:Nat)
 |nT (o:Nat)
 deriving Inhabited
inductive PS where
 |one (s:CS)
 |agg (l:List CS)
 |mf (l:List PS)
 deriving Inhabited
inductive OS where
 |box (T:TypeId) (l:List CS)
 |row (e:TypeId) (c:Co)
 |arr (e:TypeId) (c:Co) (full:Bool)
 |loop (r:Nat) (st:LS) (Wc:List (Nat×PS))
 |map (t:TypeId) (kc vc:Co)
 |fk (t et:TypeId) (kc c:Co)
 |sJ (t:TypeId) (kc vc:Co) (q:Nat)
 |IK (kc:Co) (o:Nat)
 deriving Inhabited
variable (S) in
abbrev qn:=(c:Co)×T S c
def G3:CV S->AV S
 |.ag xs=>.agg xs
 |v=>.one v
def nag:CV S->Bool
 |.ag _=>false
 |_=>true
def aar(v:CV S):Bool:=Nat.beq v.n 1
mutual
def CS.fill(ids:Nat->Nat):CS->List (qn S)->Option (List (CV S)×List (qn S))
 |.da c,⟨c',x⟩::ds=>match decEq c' c with|isTrue h=>some (S4 tb c (h▸x),ds)|isFalse _=>none
 |.rw o c,⟨c',x⟩::ds=>match decEq c' (.sl c)with|isTrue h=>some ([.rw (ids o) c (show List (T S c) from(h▸x:T S (.sl c)))],ds)|isFalse _=>none
 |.da _,[]=>none
 |.rw _ _,[]=>none
 |.aw o,ds=>some ([.aw (ids o)],ds)
 |.ptr o off,ds=>some ([.ptr (ids o) off],ds)
 |.l7,ds=>some ([.l7],ds)
 |.dY,ds=>some ([.dY],ds)
 |.tt b,ds=>some ([.tt b],ds)
 |.fQ,ds=>some ([.fQ],ds)
 |.yl o,ds=>some ([.yl (ids o)],ds)
 |.nT o,ds=>some ([.mp (ids o)],ds)
 |.fn f xs ys,ds=>(CS.kX ids xs ds).bind fun p=>(CS.kX ids ys p.2).bind fun q=>match p.1.all aar&&q.1.all aar with|true=>some ([.fn (.func f) p.1 q.1],q.2)|false=>none
def CS.kX(ids:Nat->Nat):List CS->List (qn S)->Option (List (CV S)×List (qn S))
 |[],ds=>some ([],ds)
 |s::l,ds=>(CS.fill ids s ds).bind fun p=>(CS.kX ids l p.2).map fun q=>(p.1++q.1,q.2)
end
mutual
def PS.fill(ids:Nat->Nat):PS->List (qn S)->Option (AV S×List (qn S))
 |.one s,ds=>(CS.fill tb ids s ds).bind fun p=>match p.1 with| [v]=>some (.one v,p.2)|_=>none
 |.agg l,ds=>(CS.kX tb ids l ds).map fun p=>(.agg p.1,p.2)
 |.mf l,ds=>(PS.kX ids l ds).map fun p=>(.mf p.1,p.2)
def PS.kX(ids:Nat->Nat):List PS->List (qn S)->Option (List (AV S)×List (qn S))
 |[],ds=>some ([],ds)
 |s::l,ds=>(PS.fill ids s ds).bind fun p=>(PS.kX ids l p.2).map fun q=>(p.1::q.1,q.2)
end
def Di(ids:Nat->Nat)(cJ:Nat):List (Nat×PS)->List (qn S)->Option (List (Nat×Nat×AV S)×List (qn S))
 |[],ds=>some ([],ds)
 |(t,s)::l,ds=>(PS.fill tb ids s ds).bind fun p=>(Di ids (cJ+1) l p.2).map fun q=>((t,cJ,p.1)::q.1,q.2)
def OS.fill(ids:Nat->Nat):OS->List (qn S)->Option (AO S×List (qn S))
 |.box T l,ds=>(CS.kX tb ids l ds).map fun p=>(.box T p.1,p.2)
 |.row e c,ds=>some (.row e c,ds)
 |.arr e c full,⟨c',x⟩::ds=>match decEq c' (.sl c)with|isTrue h=>some (.arr e c full (show List (T S c) from(h▸x:T S (.sl c))),ds)|isFalse _=>none
 |.arr _ _ _,[]=>none
 |.loop r st Wc,ds=>(Di tb ids 300 Wc ds).map fun p=>(.loop r st p.1,p.2)
 |.map t kc vc,⟨c',x⟩::ds=>match decEq c' (.mp kc vc)with|isTrue h=>some (.map t kc vc (show List (T S kc×T S vc) from(h▸x:T S (.mp kc vc))) none,ds)|isFalse _=>none
 |.map _ _ _,[]=>none
 |.fk t et kc c,⟨c',x⟩::ds=>match decEq c' (.mp kc (.sl c))with|isTrue h=>some (.fk t et kc c (show List (T S kc×List (T S c)) from(h▸x:T S (.mp kc (.sl c)))) none,ds)|isFalse _=>none
 |.fk _ _ _ _,[]=>none
 |.sJ t kc vc q,⟨c',x⟩::ds=>match decEq c' (.mp kc vc)with|isTrue h=>some (.sJ t kc vc (show List (T S kc×T S vc) from(h▸x:T S (.mp kc vc))) none (ids q),ds)|isFalse _=>none
 |.sJ _ _ _ _,[]=>none
 |.IK kc o,ds=>some (.IK kc (ids o) (some none),ds)
def OS.kX(ids:Nat->Nat):List OS->List (qn S)->Option (List (AO S)×List (qn S))
 |[],ds=>some ([],ds)
 |s::l,ds=>(OS.fill tb ids s ds).bind fun p=>(OS.kX ids l p.2).map fun q=>(p.1::q.1,q.2)
def uni(mp:List (Nat×Nat))(o q:Nat):Option (List (Nat×Nat)):=match look o mp with
 |some r=>match Nat.beq r q with|true=>some mp|false=>none
 |none=>match(mp.any fun p=>Nat.beq p.2 q)||!Nat.ble o 200 with|true=>none|false=>some ((o,q)::mp)
variable (S) in
abbrev Tk:=List (qn S)×List (CV S)×List (Nat×Nat)
mutual
def CS.take(mp:List (Nat×Nat)):CS->List (CV S)->Option (Tk S)
 |.da c,vs=>(pk tb c vs).map fun p=>([⟨c,p.1⟩],p.2,mp)
 |.rw o c,.rw q d l::vs=>match decEq d c with|isTrue h=>(uni mp o q).map fun mp=>([⟨.sl c,xp h l⟩],vs,mp)|isFalse _=>none
 |.aw o,.aw q::vs=>(uni mp o q).map fun mp=>([],vs,mp)
 |.ptr o off,.ptr q off'::vs=>match Nat.beq off off' with|true=>(uni mp o q).map fun mp=>([],vs,mp)|false=>none
 |.l7,.l7::vs=>some ([],vs,mp)
 |.dY,.dY::vs=>some ([],vs,mp)
 |.tt b,.tt c::vs=>(match b == c with|true=>some ([],vs,mp)|false=>none)
 |.fQ,.fQ::vs=>some ([],vs,mp)
 |.yl o,.yl q::vs=>(uni mp o q).map fun mp=>([],vs,mp)
 |.nT o,.mp q::vs=>(uni mp o q).map fun mp=>([],vs,mp)
 |.fn f xs ys,.fn (.func g) first caps::vs=>match Nat.beq f g&&(first.all nag&&caps.all nag)with
  |true=>(CS.takes mp xs first).bind fun p=>match p.2.1 with
   |[]=>(CS.takes p.2.2 ys caps).bind fun q=>match q.2.1 with| []=>some (p.1++q.1,vs,q.2.2)|_::_=>none
   |_::_=>none
  |false=>none
 |_,_=>none
def CS.takes(mp:List (Nat×Nat)):List CS->List (CV S)->Option (Tk S)
 |[],vs=>some ([],vs,mp)
 |s::l,vs=>(CS.take mp s vs).bind fun p=>(CS.takes p.2.2 l p.2.1).map fun q=>(p.1++q.1,q.2.1,q.2.2)
end
mutual
def PS.take(mp:List (Nat×Nat)):PS->AV S->Option (List (qn S)×List (Nat×Nat))
 |.one s,.one v=>(CS.take tb mp s [v]).bind fun p=>match p.2.1 with| []=>some (p.1,p.2.2)|_::_=>none
 |.agg l,.agg vs=>(CS.takes tb mp l vs).bind fun p=>match p.2.1 with| []=>some (p.1,p.2.2)|_::_=>none
 |.mf l,.mf vs=>PS.takes mp l vs
 |_,_=>none
def PS.takes(mp:List (Nat×Nat)):List PS->List (AV S)->Option (List (qn S)×List (Nat×Nat))
 |[],[]=>some ([],mp)
 |s::l,v::vs=>(PS.take mp s v).bind fun p=>(PS.takes p.2 l vs).map fun q=>(p.1++q.1,q.2)
 |_,_=>none
end
def xP(tm:List (Nat×Nat×AV S))(mp:List (Nat×Nat)):List (Nat×PS)->Option (List (qn S)×List (Nat×Nat))
 |[]=>some ([],mp)
 |(t,s)::l=>(look t tm).bind fun a=>(PS.take tb mp s a.2).bind fun p=>(xP tm p.2 l).map fun r=>(p.1++r.1,r.2)
def OS.take(mp:List (Nat×Nat)):OS->AO S->Option (List (qn S)×List (Nat×Nat))
 |.box T l,.box T' vs=>match Nat.beq T T' with
  |true=>(CS.takes tb mp l vs).bind fun p=>match p.2.1 with| []=>some (p.1,p.2.2)|_::_=>none
  |false=>none
 |.row e c,.row e' c'=>match Nat.beq e e',decEq c c' with|true,isTrue _=>some ([],mp)|_,_=>none
 |.arr e c full,.arr e' c' full' l=>match Nat.beq e e',decEq c' c,!full||full' with|true,isTrue h,true=>some ([⟨.sl c,xp h l⟩],mp)|_,_,_=>none
 |.loop r st Wc,.loop r' st' tm=>match Nat.beq r r'&&LS.same st st' with|true=>xP tb tm mp Wc|false=>none
 |.map t kc vc,.map t' kc' vc' l none=>match Nat.beq t t',decEq kc' kc,decEq vc' vc with|true,isTrue h,isTrue k=>some ([⟨.mp kc vc,qt h k l⟩],mp)|_,_,_=>none
 |.fk t et kc c,.fk t' et' kc' c' l none=>match Nat.beq t t'&&Nat.beq et et',decEq kc' kc,decEq c' c with|true,isTrue h,isTrue k=>some ([⟨.mp kc (.sl c),II h k l⟩],mp)|_,_,_=>none
 |.sJ t kc vc q,.sJ t' kc' vc' l none q'=>match Nat.beq t t',decEq kc' kc,decEq vc' vc with|true,isTrue h,isTrue k=>(uni mp q q').map fun mp=>([⟨.mp kc vc,qt h k l⟩],mp)|_,_,_=>none
 |.IK kc o,.IK kc' o' _=>match decEq kc' kc with|isTrue _=>(uni mp o o').map fun mp=>([],mp)|isFalse _=>none
 |_,_=>none
def OS.takes(ob:List (Nat×Nat×AO S))(mp:List (Nat×Nat)):Nat->List OS->Option (List (qn S)×List (Nat×Nat))
 |_,[]=>some ([],mp)
 |o,s::l=>(look o mp).bind fun q=>(look q ob).bind fun a=>(OS.take tb mp s a.2).bind fun p=>(OS.takes ob p.2 (o+1) l).map fun r=>(p.1++r.1,r.2)
def Au:(ls:List Co)->HT S ls->List (qn S)
 |[],_=>[]
 |[c],x=>[⟨c,x⟩]
 |c::d::cs,x=>⟨c,x.1⟩::Au (d::cs) x.2
def BT:(ls:List Co)->List (qn S)->Option (HT S ls)
 |[],[]=>some ()
 |[c],[⟨c',x⟩]=>match decEq c' c with|isTrue h=>some (h▸x)|isFalse _=>none
 |c::d::cs,⟨c',x⟩::ds=>match decEq c' c with|isTrue h=>(BT (d::cs) ds).map fun y=>(h▸x,y)|isFalse _=>none
 |_,_=>none
def Nn{α:Type}(l:List α):List Nat->Option (List α)
 |[]=>some []
 |i::is=>(l[i]?).bind fun x=>(Nn l is).map (x:: ·)
def xr(pm:List Nat)(ds:List (qn S)):Option (List (qn S)):=match pm with
 |[]=>some ds
 |_::_=>match Nat.beq ds.length pm.length with|true=>Nn ds pm|false=>none
def U3:List Nat->List Nat->Bool
 |[],[]=>true
 |x::l,y::l'=>Nat.beq x y&&U3 l l'
 |_,_=>false
def QE(pm bk:List Nat):Bool:=match pm,bk with
 |[],[]=>true
 |_::_,_::_=>Nat.beq pm.length bk.length&&(match Nn pm bk with|some l=>U3 l (List.range bk.length)|none=>false)
 |_,_=>false
inductive PrK where
 |own (e:TypeId) (c:Co)
 |arr (e:TypeId) (c:Co)
 |Y9
structure JA where
 Wc:List (Nat×PS):=[]
 eW:List OS:=[]
 ls:List Co:=[]
 pm:List Nat:=[]
 bk:List Nat:=[]
 fx:List (Nat×Nat):=[]
 gone:List Nat:=[]
 kill:List Nat:=[]
 pre:List (Nat×Nat×PrK):=[]
 early:Bool:=false
 Za:QE pm bk=true:=by rfl
 JF:(Nat.ble Wc.length 190&&Nat.ble eW.length 190)=true:=by rfl
def has(t:Nat):List Nat->Bool
 |[]=>false
 |u::l=>match Nat.beq u t with|true=>true|false=>has t l
def Bk(J:JA):List (Nat×Nat×AV S)->List (Nat×Nat×AV S)
 |[]=>[]
 |(t,x)::l=>match has t J.kill||J.Wc.any fun p=>Nat.beq p.1 t with|true=>Bk J l|false=>(t,x)::Bk J l
mutual
def CV.ids:CV S->List Nat
 |.rw o _ _=>[o]
 |.aw o=>[o]
 |.ptr o _=>[o]
 |.Rd o _ _ _ _ _=>[o]
 |.WV o _ _ _=>[o]
 |.px o _ _ _ _=>[o]
 |.yl o=>[o]
 |.mp o=>[o]
 |.stp o _=>[o]
 |.ZS o=>[o]
 |.rz o _ _=>[o]
 |.pt o _ _ _=>[o]
 |.fn _ xs ys=>CV.Om xs++CV.Om ys
 |.ag xs=>CV.Om xs
 |_=>[]
def CV.Om:List (CV S)->List Nat
 |[]=>[]
 |v::vs=>CV.ids v++CV.Om vs
end
mutual
def AV.ids:AV S->List Nat
 |.one v=>v.ids
 |.agg vs=>CV.Om vs
 |.mf vs=>AV.Om vs
def AV.Om:List (AV S)->List Nat
 |[]=>[]
 |v::vs=>AV.ids v++AV.Om vs
end
def AO.ids:AO S->List Nat
 |.box _ vs=>CV.Om vs
 |.sJ _ _ _ _ _ q=>[q]
 |.IK _ o _=>[o]
 |_=>[]
def Rv(xs ys:List Nat):List Nat:=xs.foldl (fun l x=>match has x l with|true=>l|false=>x::l) ys
def Ya(ob:List (Nat×Nat×AO S)):Nat->List Nat->List Nat
 |0,l=>l
 |n+1,l=>Ya ob n (l.foldl (fun r x=>match look x ob with|some a=>Rv a.2.ids r|none=>r) l)
def K1(r:List Nat):List (Nat×Nat×AO S)->List (Nat×Nat×AO S)
 |[]=>[]
 |(q,x)::l=>match has q r with|true=>(q,x)::K1 r l|false=>K1 r l
def gW(rm:List Nat):List (Nat×Nat×AO S)->List (Nat×Nat×AO S)
 |[]=>[]
 |(q,x)::l=>match has q rm with|true=>gW rm l|false=>(q,x)::gW rm l
def F9(J:JA)(σ:AS S):List (Nat×Nat×AO S):=
 gW ((J.fx.filter fun r=>Nat.ble (r.1+1) J.eW.length).map (·.2)++J.gone) (K1 (Ya σ.ob 4 (Rv σ.rt ((Bk J σ.tm).foldl (fun r x=>Rv x.2.2.ids r) []))) σ.ob)
def O3(tm:List (Nat×Nat×AV S)):List (Nat×Nat×AV S)->Bool
 |[]=>true
 |(t,x)::l=>(match look t tm with|some y=>Nat.beq x.1 y.1|none=>false)&&O3 tm l
def O1(ob:List (Nat×Nat×AO S)):List (Nat×Nat×AO S)->Bool
 |[]=>true
 |(t,x)::l=>(match look t ob with|some y=>Nat.beq x.1 y.1|none=>false)&&O1 ob l
def H3(mp:List (Nat×Nat)):Nat->Nat->List Nat
 |_,0=>[]
 |o,n+1=>match look o mp with|some q=>q::H3 mp (o+1) n|none=>H3 mp (o+1) n
def nv:List Nat->Bool
 |[]=>true
 |x::l=>match has x l with|true=>false|false=>nv l
def place(σ:AS S)(t i:Nat):Option (CV S):=match look t σ.tm with
 |some (_,.one v)=>(match i with
  |0=>some v
  |i+1=>match v with| .ptr o _=>(match look o σ.ob with|some (_,.box _ cs)=>cs[i]?|_=>none)|_=>none)
 |some (_,.agg vs)=>(match i with|0=>none|i+1=>vs[i]?)
 |_=>none
def CP(σ:AS S)(t i:Nat)(w:CV S):AS S:=match look t σ.tm with
 |some (cJ,.one v)=>(match i with
  |0=>{σ with tm:=(t,cJ,.one w)::drop1 t σ.tm,ct:=σ.ct+64}
  |i+1=>match v with| .ptr o _=>(match look o σ.ob with|some (_,.box T cs)=>{σ with ob:=(o,σ.ct+32,.box T (cs.set i w))::gW [o] σ.ob,ct:=σ.ct+64}|_=>σ)|_=>σ)
 |some (cJ,.agg vs)=>(match i with|0=>σ|i+1=>{σ with tm:=(t,cJ,.agg (vs.set i w))::drop1 t σ.tm,ct:=σ.ct+64})
 |_=>σ
def Pz(σ:AS S)(q:Nat)(a:AO S):AS S:={σ with ob:=(q,σ.ct+32,a)::σ.ob,ct:=σ.ct+64}
def X2(σ:AS S)(t i:Nat)(k:PrK):Option (AS S):=match place σ t i,k with
 |some .fQ,.own e c=>some (Pz (CP {σ with ct:=σ.ct+64} t i (.rw (σ.ct+1) c [])) (σ.ct+1) (.row e c))
 |some .fQ,.arr e c=>some (Pz (CP {σ with ct:=σ.ct+64} t i (.aw (σ.ct+1))) (σ.ct+1) (.arr e c true []))
 |some (.aw o),.Y9=>(look o σ.ob).bind fun a=>match a.2 with
  |.arr _ c _ l=>(match place {σ with ob:=gW [o] σ.ob} t i with
   |some (.aw o')=>(match Nat.beq o' o with|true=>some (CP {σ with ob:=gW [o] σ.ob} t i (.sl c l))|false=>none)
   |_=>none)
  |_=>none
 |some _,_=>some σ
 |none,_=>none
def H2:List (Nat×Nat×PrK)->AS S->Option (AS S)
 |[],σ=>some σ
 |(t,i,k)::l,σ=>(X2 σ t i k).bind (H2 l)
def pack(J:JA)(σ0 σ:AS S):Option (HT S J.ls):=(H2 J.pre σ).bind fun σ=>
 match O3 σ.tm (Bk J σ0.tm)&&O1 σ.ob (F9 J σ0)&&Nat.beq σ.fb σ0.fb&&(J.fx.all fun r=>(look r.2 σ0.ob).isSome&&Nat.ble r.1 200)&&nv (J.fx.map (·.2))with
 |true=>(xP tb σ.tm J.fx J.Wc).bind fun p=>(OS.takes tb σ.ob p.2 0 J.eW).bind fun q=>
  match nv (H3 q.2 0 J.eW.length++(F9 J σ0).map (·.1))with
  |true=>(xr J.pm (p.1++q.1)).bind (BT J.ls)
  |false=>none
 |false=>none
def Sj(ids:Nat->Nat)(o v:Nat):List (AO S)->List (Nat×Nat×AO S)
 |[]=>[]
 |a::l=>(ids o,v,a)::Sj ids (o+1) (v+1) l
def JA.ids(J:JA)(ct o:Nat):Nat:=match look o J.fx with|some q=>q|none=>ct+o
def Qo(v:Nat):List (AO S)->List (Nat×Nat×AO S)
 |[]=>[]
 |a::l=>(v,v,a)::Qo (v+1) l
def unpack(J:JA)(σ0:AS S)(z:HT S J.ls):Option (AS S):=
 (xr J.bk (Au J.ls z)).bind fun ds=>
 (Di tb (J.ids σ0.ct) (σ0.ct+64) J.Wc ds).bind fun p=>
 (OS.kX tb (J.ids σ0.ct) J.eW p.2).bind fun q=>
 some {σ0 with tm:=p.1++Bk J σ0.tm,ob:=Sj (J.ids σ0.ct) 0 σ0.ct q.1++F9 J σ0,ct:=σ0.ct+256}
inductive KS where
 |kept
 |now (s:OS)
 |gone
structure Out where
 out:PS
 lB:List KS:=[]
 Bo:List Co
 pm':List Nat:=[]
 Rc:List Nat:=[]
 ad6:QE pm' Rc=true:=by rfl
 JF:Nat.ble lB.length 30=true:=by rfl
variable (S) in
def q9:List Out->Type
 |[]=>Empty
 |[o]=>HT S o.Bo
 |o::p::os=>HT S o.Bo⊕q9 (p::os)
def ac0{γ:Type}(k:(o:Out)->HT S o.Bo->Option γ):(os:List Out)->q9 S os->Option γ
 |[],_=>none
 |[o],y=>k o y
 |o::p::os,y=>@Sum.elim (HT S o.Bo) (q9 S (p::os)) (Option γ) (k o) (ac0 k (p::os)) y
def Zm{γ:Type}(os:List Out)(y:q9 S os)(k:(o:Out)->HT S o.Bo->Option γ):Option γ:=ac0 k os y
def Kb:(os:List Out)->q9 S os->((o:Out)->HT S o.Bo->Prop)->Prop
 |[],_,_=>False
 |[o],y,p=>p o y
 |o::_::_,Sum.inl z,q=>q o z
 |_::p::os,Sum.inr z,q=>Kb (p::os) z q
variable (S) in
structure cV where
 f:FuncId
 ins:List PS
 eW:List OS:=[]
 ls:List Co
 pm:List Nat:=[]
 bk:List Nat:=[]
 outs:List Out
 Za:QE pm bk=true:=by rfl
 JF:(Nat.ble eW.length 30&&outs.all fun o=>Nat.ble eW.length o.lB.length)=true:=by rfl
 pL:HT S ls->Option (q9 S outs)
variable (S) in
structure NC where
 f:FuncId
 ins:List PS
 eW:List OS:=[]
 ls:List Co
 pm:List Nat:=[]
 bk:List Nat:=[]
 out:Out
 Za:QE pm bk=true:=by rfl
 JF:(Nat.ble eW.length 30&&Nat.ble eW.length out.lB.length)=true:=by rfl
 Jo:(γ:Type)->(HT S out.Bo->Option γ)->HT S ls->Option γ
def NC.ctr(c:NC S):cV S:={f:=c.f,ins:=c.ins,eW:=c.eW,ls:=c.ls,pm:=c.pm,bk:=c.bk,outs:=[c.out],Za:=c.Za,JF:=(by have h:=c.JF;simp only[List.all_cons,List.all_nil,Bool.and_true];exact h),pL:=fun _=>none}
variable (S) in
structure sS where
 v:AV S
 rd:List Nat:=[]
 rm:List Nat:=[]
 add:List (Nat×AO S):=[]
def val(v:CV S):sS S:={v:=.one v}
def OS.outs(ids:Nat->Nat):Nat->List KS->List (qn S)->Option (List (Nat×AO S))
 |_,[],[]=>some []
 |_,[],_::_=>none
 |o,.now s::l,ds=>(OS.fill tb ids s ds).bind fun p=>(OS.outs ids (o+1) l p.2).map fun q=>(ids o,p.1)::q
 |o,_::l,ds=>OS.outs ids (o+1) l ds
def zh(mp:List (Nat×Nat))(ct:Nat)(o:Nat):Nat:=match look o mp with|some q=>q|none=>ct+1+o
def KS.isK:KS->Bool
 |.kept=>true
 |_=>false
def lH(mp:List (Nat×Nat))(k:Bool):Nat->List KS->List Nat
 |_,[]=>[]
 |o,s::l=>match look o mp with
  |some q=>match s.isK == k with|true=>q::lH mp k (o+1) l|false=>lH mp k (o+1) l
  |none=>lH mp k (o+1) l
variable (S) in
structure FA where
 lL:List TypeId:=[]
 lits:List TypeId:=[]
 parts:List TypeId:=[]
 takes:List TypeId:=[]
 pre:List (Nat×Nat×PrK):=[]
 fn:Nat:=0
 rd:Bool:=false
 nd:List (NC S):=[]
 deriving Inhabited
def Y5(r:Nat):Nat:=1000000+r
def Zw(b:Bool):Option Unit:=match b with|true=>some ()|false=>none
section
variable {γ:Type}(tt:TypeId->Option (TI S))(Φ:List (cV S))(fa:FA S)
def zi(f:FuncId)(args:List (AV S))(ob:List (Nat×Nat×AO S))(ct:Nat)(k:sS S->Option γ):List (cV S)->Option γ
 |[]=>none
 |c::cs=>match Nat.beq c.f f with
  |false=>zi f args ob ct k cs
  |true=>match(PS.takes tb [] c.ins args).bind fun p=>(OS.takes tb ob p.2 0 c.eW).bind fun q=>(xr c.pm (p.1++q.1)).bind fun ds=>(BT c.ls ds).map fun x=>(x,q.2)with
   |none=>zi f args ob ct k cs
   |some (x,mp)=>(c.pL x).bind fun y=>Zm c.outs y fun o z=>
    match(Zw (mp.all fun p=>Nat.ble (p.1+1) c.eW.length)).bind fun _=>(xr o.Rc (Au o.Bo z)).bind fun ds=>(PS.fill tb (zh mp ct) o.out ds).bind fun p=>(OS.outs tb (zh mp ct) 0 o.lB p.2).map fun l=>(p.1,l)with
    |some (v,l)=>k {v:=v,rd:=lH mp true 0 o.lB,rm:=lH mp false 0 o.lB,add:=l}
    |none=>none
def vK(f:FuncId)(args:List (AV S))(ob:List (Nat×Nat×AO S))(ct:Nat)(k:sS S->Option γ):List (NC S)->Option γ
 |[]=>none
 |c::cs=>match Nat.beq c.f f with
  |false=>vK f args ob ct k cs
  |true=>match(PS.takes tb [] c.ins args).bind fun p=>(OS.takes tb ob p.2 0 c.eW).bind fun q=>(xr c.pm (p.1++q.1)).bind fun ds=>(BT c.ls ds).map fun x=>(x,q.2)with
   |none=>vK f args ob ct k cs
   |some (x,mp)=>(Zw ((mp.all fun p=>Nat.ble (p.1+1) c.eW.length)&&nv (lH mp true 0 c.out.lB++lH mp false 0 c.out.lB))).bind fun _=>c.Jo γ (fun z=>
    match(xr c.out.Rc (Au c.out.Bo z)).bind fun ds=>(PS.fill tb (zh mp ct) c.out.out ds).bind fun p=>(OS.outs tb (zh mp ct) 0 c.out.lB p.2).map fun l=>(p.1,l)with
    |some (v,l)=>k {v:=v,rd:=lH mp true 0 c.out.lB,rm:=lH mp false 0 c.out.lB,add:=l}
    |none=>none) x
def ads(o:Oper)(xs:List (AV S)):Option (FuncId×List (AV S)):=match o.op with
 |.call c=>(match c.callee,xs with
  |.value _,.one (.fn (.func f) first caps)::args=>(match(fa.nd.any fun c=>Nat.beq c.f f)&&Nat.ble f 999999 with|true=>some (f,first.map G3++args++caps.map G3)|false=>none)
  |_,_=>none)
 |_=>none
def aae(sq:Bool)(o:Oper)(xs:List (AV S)):Option (FuncId×List (AV S)):=match sq with
 |true=>ads fa o xs
 |false=>none
def oX(t:TypeId):Option (TypeId×Co):=(tt t).bind fun i=>match i.d,i.co with| .slice e,.sl c=>some (e,c)|_,_=>none
def Dr(i:TI S)(vs:Option (List (CV S)))(one:Option (CV S))(rd:List Nat)(k:sS S->Option γ):Option γ:=match ml i.d with
 |true=>vs.bind fun vs=>k {v:=.agg vs,rd:=rd}
 |false=>one.bind fun v=>k {v:=.one v,rd:=rd}
def M7(t:TypeId)(v:CV S)(ob:List (Nat×Nat×AO S))(k:sS S->Option γ):Option γ:=
 (tt t).bind fun i=>match v with
 |.ptr o off=>(look o ob).bind fun a=>match a.2 with
  |.box _ cs=>Dr i ((cutAt off cs).bind (Aq i.size)) (Ci off cs) [o] k
  |_=>none
 |.el c x off=>Dr i ((cutAt off (S4 tb c x)).bind (Aq i.size)) (Ci off (S4 tb c x)) [] k
 |.Rd o v c x _ off=>(look o ob).bind fun a=>match Nat.beq a.1 v with
  |true=>Dr i ((cutAt off (S4 tb c x)).bind (Aq i.size)) (Ci off (S4 tb c x)) [o] k
  |false=>none
 |.WV o off n j=>(look o ob).bind fun a=>match a.2,ml i.d with
  |.box _ cs,false=>(cutAt off cs).bind fun cs=>match cs with
   |.a8 n' f::_=>match Nat.beq n n' with|true=>k {v:=.one (.u8 (dQ f j)),rd:=[o]}|false=>none
   |.ai n' kk f::_=>match Nat.beq n n' with|true=>k {v:=.one (.int kk (dQ f j)),rd:=[o]}|false=>none
   |_=>none
  |_,_=>none
 |_=>none
def EX:Nat->CV S->List (CV S)->Option (List (CV S))
 |_,_,[]=>none
 |0,x,_::vs=>some (x::vs)
 |o+1,x,v::vs=>match Nat.ble v.n (o+1)with|true=>(EX (o+1-v.n) x vs).map (v:: ·)|false=>none
def X6(o n:Nat)(xs vs:List (CV S)):Option (List (CV S)):=match Nat.beq (SJ xs) n with
 |true=>(match xs,Nat.beq n 1 with| [x],true=>X4 o x vs|xs,_=>acu o n xs vs)
 |false=>none
def Ip(t:TypeId)(p:CV S)(a:AV S)(ob:List (Nat×Nat×AO S))(k:sS S->Option γ):Option γ:=
 (tt t).bind fun i=>(zj a).bind fun xs=>
 match p with
 |.ptr o off=>(look o ob).bind fun b=>match b.2 with
  |.box T cs=>(X6 off i.size xs cs).bind fun cs'=>k {v:=AV.ux S,rm:=[o],add:=[(o,.box T cs')]}
  |_=>none
 |.Rd o v c x j off=>(look o ob).bind fun b=>match Nat.beq b.1 v with
  |true=>match b.2 with
   |.arr e c' full l=>(X6 off i.size xs (S4 tb c x)).bind fun cs'=>(JT tb c' cs').bind fun u=>
    k {v:=AV.ux S,rm:=[o],add:=[(o,.arr e c' full (l.set j.toNat u))]}
   |_=>none
  |false=>none
 |.WV o off n j=>(look o ob).bind fun b=>match b.2,Nat.beq i.size 1 with
  |.box T cs,true=>(cutAt off cs).bind fun cs1=>(match cs1,xs with
   |.a8 n' f::_,[.u8 y]=>(match Nat.beq n n' with|true=>EX off (.a8 n' (b7 f j y)) cs|false=>none)
   |.ai n' kk f::_,[.int k' y]=>(match Nat.beq n n',decEq k' kk with|true,isTrue _=>EX off (.ai n' kk (b7 f j y)) cs|_,_=>none)
   |_,_=>none).bind fun cs'=>k {v:=AV.ux S,rm:=[o],add:=[(o,.box T cs')]}
  |_,_=>none
 |_=>none
def idxOf(v:AV S):Option Int:=match v with| .one v=>(num v).map (·.2)|_=>none
def HN(t:TypeId)(y:Operand)(v:CV S)(i:Int)(ob:List (Nat×Nat×AO S))(k:sS S->Option γ):Option γ:=
 match v with
 |.ptr o off=>(tt t).bind fun ti=>match ti.d with
  |.array n e=>(tt e).bind fun ei=>match Nat.beq ei.size 1 with
   |true=>(match y with
    |.const (.int _ j)=>(match decide (0<=j)&&decide (j<n)with|true=>k (val (.ptr o (off+j.toNat)))|false=>none)
    |_=>(rL (0<=i/\i<n)).bind fun _=>k (val (.WV o off n i)))
   |false=>none
  |_=>none
 |v=>(oX tt t).bind fun ec=>match v with
  |.aw o=>(look o ob).bind fun a=>match a.2 with
   |.arr _ c' _ l=>(match decEq c' ec.2 with
    |isTrue _=>(idx l i).bind fun x=>k {v:=.one (.Rd o a.1 c' x i 0),rd:=[o]}
    |isFalse _=>none)
   |_=>none
  |v=>(slv ec.2 v).bind fun l=>(idx l i).bind fun x=>k (val (.el ec.2 x 0))
def Bt:Option Operand->List (AV S)->Option (Option Int×List (AV S))
 |none,vs=>some (none,vs)
 |some _,v::vs=>(idxOf v).map fun i=>(some i,vs)
 |some _,[]=>none
def abZ:CV S->Bool
 |.fQ=>true
 |_=>false
def ab0:Option Int->Option Int->Option Int->Bool
 |none,some _,none=>true
 |_,_,_=>false
def ac8(c:Co)(v:CV S)(l:List (T S c)):CV S:=match v with
 |.rw o d _=>(match decEq d c with|isTrue _=>.rw o c l|isFalse _=>.sl c l)
 |_=>.sl c l
def E3(t:TypeId)(v:CV S)(lo hi mx:Option Int)(ob:List (Nat×Nat×AO S))(ct:Nat)(k:sS S->Option γ):Option γ:=
 (oX tt t).bind fun ec=>match v with
 |.aw o=>(look o ob).bind fun a=>match a.2,lo,hi,mx with
  |.arr e c _ l,some i,none,none=>(match decEq c ec.2 with
   |isTrue _=>(qY l i).bind fun l'=>k {v:=.one (.aw (ct+1)),rm:=[o],add:=[(ct+1,.arr e c false l')]}
   |isFalse _=>none)
  |.arr e c full l,none,some j,none=>(match decEq c ec.2 with
   |isTrue _=>(wG l j).bind fun l'=>k {v:=.one (.aw (ct+1)),rm:=[o],add:=[(ct+1,.arr e c full l')]}
   |isFalse _=>none)
  |_,_,_,_=>none
 |.rz o c _=>(match lo,hi,mx with
  |none,some j,none=>(match decide (j=0)with|true=>k {v:=.one (.rw o c []),rd:=[o]}|false=>none)
  |_,_,_=>none)
 |v=>match abZ v&&ab0 lo hi mx with
  |true=>(match decide (hi=some 0)with|true=>k (val .fQ)|false=>none)
  |false=>(slv ec.2 v).bind fun l=>match lo,hi,mx with
  |some i,none,none=>(qY l i).bind fun l'=>k (val (ac8 ec.2 v l'))
  |none,some j,none=>(wG l j).bind fun l'=>k (val (.sl ec.2 l'))
  |some i,some j,none=>(yG l i j).bind fun l'=>k (val (.sl ec.2 l'))
  |none,some j,some m=>(rL (m=j)).bind fun _=>(wG l j).bind fun l'=>k (val (.slF ec.2 l'))
  |_,_,_=>none
def Dd(t:TypeId)(v w:CV S)(ob:List (Nat×Nat×AO S))(ct:Nat)(k:sS S->Option γ):Option γ:=
 (oX tt t).bind fun ec=>(tt ec.1).bind fun ei=>(slv ec.2 w).bind fun l'=>match v with
  |.fQ=>(app ei.bytes [] l').bind fun l2=>match has t fa.lL with
   |true=>k {v:=.one (.aw (ct+1)),add:=[(ct+1,.arr ec.1 ec.2 true l2)]}
   |false=>k {v:=.one (.rw (ct+1) ec.2 l2),add:=[(ct+1,.row ec.1 ec.2)]}
  |.rw o d l=>(look o ob).bind fun a=>match a.2,decEq d ec.2 with
   |.row e' d',isTrue h=>(match Nat.beq e' ec.1,decEq d' ec.2 with
    |true,isTrue _=>(app ei.bytes (xp h l) l').bind fun l2=>k {v:=.one (.rw (ct+1) ec.2 l2),rm:=[o],add:=[(ct+1,.row ec.1 ec.2)]}
    |_,_=>none)
   |_,_=>none
  |.aw o=>(look o ob).bind fun a=>match a.2 with
   |.arr e' d true l=>(match Nat.beq e' ec.1,decEq d ec.2 with
    |true,isTrue h=>(app ei.bytes (xp h l) l').bind fun l2=>k {v:=.one (.aw (ct+1)),rm:=[o],add:=[(ct+1,.arr ec.1 ec.2 true l2)]}
    |_,_=>none)
   |_=>none
  |.slF d l=>(match decEq d ec.2 with
   |isTrue h=>(app ei.bytes (xp h l) l').bind fun l2=>k (val (.sl ec.2 l2))
   |isFalse _=>none)
  |_=>none
def Nl(t:TypeId)(v:CV S)(lo hi mx:Option Int)(ob:List (Nat×Nat×AO S))(ct:Nat)(k:sS S->Option γ):Option γ:=match v with
 |.aw o=>(oX tt t).bind fun ec=>(look o ob).bind fun a=>match a.2,lo,hi,mx with
  |.arr _ c _ l,some i,none,none=>(match decEq c ec.2 with
   |isTrue _=>(rL (0<=i/\i<=(l.length:Int))).bind fun _=>k {v:=.one (.pt o ec.2 i ((l.length:Int)-i)),rd:=[o]}
   |isFalse _=>none)
  |.arr _ c _ l,some i,some j,none=>(match decEq c ec.2 with
   |isTrue _=>(rL (0<=i/\i<=j/\j<=(l.length:Int))).bind fun _=>k {v:=.one (.pt o ec.2 i (j-i)),rd:=[o]}
   |isFalse _=>none)
  |_,_,_,_=>none
 |v=>E3 tt t v lo hi mx ob ct k
def acy(o:Nat)(s:CV S)(l:List UInt8):Option (List UInt8):=match s with
 |.pt o' c off n=>(match Nat.beq o' o,decEq c .u8 with
  |true,isTrue _=>some ((l.drop off.toNat).take n.toNat)
  |_,_=>none)
 |s=>slv .u8 s
def DB(t:TypeId)(o off:Nat)(lo hi mx:Option Int)(k:sS S->Option γ):Option γ:=
 (tt t).bind fun ti=>match ti.d,mx with
  |.array n e,none=>(tt e).bind fun ei=>(match Nat.beq ei.size 1 with
   |true=>(rL (0<=lo.getD 0/\lo.getD 0<n/\lo.getD 0<=hi.getD n/\hi.getD n<=n)).bind fun _=>k (val (.px o off n (lo.getD 0) (hi.getD n)))
   |false=>none)
  |_,_=>none
def N6(ec:TypeId×Co)(o off n:Nat)(i j:Int)(s:CV S)(ob:List (Nat×Nat×AO S))(k:sS S->Option γ):Option γ:=match s,ec.2 with
 |.px o' off' n' i' j',.int _=>(match Nat.beq o' o&&(Nat.beq off' off&&Nat.beq n' n)with
  |true=>(look o ob).bind fun a=>(match a.2 with
   |.box T cs=>(cutAt off cs).bind fun cs1=>(match cs1 with
    |.ai n1 kk f::_=>(match Nat.beq n1 n with
     |true=>(EX off (.ai n kk (CC f i.toNat i'.toNat (lP (j-i) (j'-i')).toNat)) cs).bind fun cs'=>k {v:=.one (.int .i64 (lP (j-i) (j'-i'))),rm:=[o],add:=[(o,.box T cs')]}
     |false=>none)
    |_=>none)
   |_=>none)
  |false=>none)
 |s,.u8=>(slv .u8 s).bind fun l=>(look o ob).bind fun a=>(match a.2 with
  |.box T cs=>(cutAt off cs).bind fun cs1=>(match cs1 with
   |.a8 n1 f::_=>(match Nat.beq n1 n with
    |true=>(EX off (.a8 n (cpA f i.toNat (lP (List.length (α:=UInt8) l:Int) (j-i)).toNat l)) cs).bind fun cs'=>k {v:=.one (.int .i64 (lP (List.length (α:=UInt8) l:Int) (j-i))),rm:=[o],add:=[(o,.box T cs')]}
    |false=>none)
   |_=>none)
  |_=>none)
 |_,_=>none
def DA(t:TypeId)(o off:Nat)(lo hi mx:Option Int)(ob:List (Nat×Nat×AO S))(k:sS S->Option γ):Option γ:=
 (tt t).bind fun ti=>match ti.d,lo,hi,mx,off with
  |.array n e,none,none,none,0=>(tt e).bind fun ei=>(look o ob).bind fun a=>(match a.2 with
   |.box _ [.a8 n1 f]=>(match Nat.beq n1 n&&(Nat.beq ei.size 1&&(Nat.ble 1 n&&Nat.ble n 4096))with
    |true=>k {v:=.one (.sl .u8 (Kk (α:=UInt8) n f)),rm:=[o]}
    |false=>none)
   |_=>none)
  |_,_,_,_,_=>none
def MJ(t:TypeId)(d s:CV S)(ob:List (Nat×Nat×AO S))(k:sS S->Option γ):Option γ:=
 (oX tt t).bind fun ec=>match d with
  |.pt o c off n=>(look o ob).bind fun a=>match a.2 with
   |.arr e c' full l=>(match decEq c' .u8,decEq c .u8,decEq ec.2 .u8 with
    |isTrue h,isTrue _,isTrue _=>(acy o s (xp h l)).bind fun x=>k {v:=.one (.int .i64 (lP (x.length:Int) n)),rm:=[o],add:=[(o,.arr e .u8 full (Y7 (α:=UInt8) (xp h l) off.toNat (x.take n.toNat)))]}
    |_,_,_=>none)
   |_=>none
  |.px o off n i j=>N6 ec o off n i j s ob k
  |_=>none
def pxL(o off n:Nat)(i j:Int)(ob:List (Nat×Nat×AO S)):Option (List UInt8):=(look o ob).bind fun a=>match a.2 with
 |.box _ cs=>(cutAt off cs).bind fun cs1=>(match cs1 with
  |.a8 n1 f::_=>(match Nat.beq n1 n with|true=>some (((Kk n f).drop i.toNat).take (j-i).toNat)|false=>none)
  |_=>none)
 |_=>none
def Af(t:TypeId)(q:Nat)(d:Co)(l:List (T S d))(o off n:Nat)(i j:Int)(ob:List (Nat×Nat×AO S))(ct:Nat)(k:sS S->Option γ):Option γ:=
 (oX tt t).bind fun ec=>(tt ec.1).bind fun ei=>(look q ob).bind fun a=>match a.2,decEq d .u8,decEq ec.2 .u8 with
  |.row e' d',isTrue h,isTrue _=>(match Nat.beq e' ec.1&&Nat.ble n 4096,decEq d' .u8 with
   |true,isTrue _=>(pxL o off n i j ob).bind fun l'=>(app (α:=UInt8) ei.bytes (xp h l) l').bind fun l2=>k {v:=.one (.rw (ct+1) .u8 l2),rd:=[o],rm:=[q],add:=[(ct+1,.row ec.1 .u8)]}
   |_,_=>none)
  |_,_,_=>none
def Hr(t:TypeId)(v:CV S)(ob:List (Nat×Nat×AO S))(k:sS S->Option γ):Option γ:=
 (oX tt t).bind fun ec=>(tt ec.1).bind fun ei=>(JT tb ec.2 ei.zero).bind fun z=>match v with
  |.pt o c off n=>(look o ob).bind fun a=>match a.2 with
   |.arr e c' full l=>(match decEq c' ec.2,decEq c ec.2 with
    |isTrue h,isTrue _=>k {v:=.mf [],rm:=[o],add:=[(o,.arr e ec.2 full (Er (xp h l) off.toNat n.toNat z))]}
    |_,_=>none)
   |_=>none
  |_=>none
def Lj:Co->Bool
 |.int _=>true
 |.u8=>true
 |.bo=>true
 |_=>false
def Ag(t tx:TypeId)(v w:CV S)(ob:List (Nat×Nat×AO S))(ct:Nat)(k:sS S->Option γ):Option γ:=
 (oX tt t).bind fun ec=>(tt ec.1).bind fun ei=>(tt tx).bind fun xi=>match xi.d,v,w with
  |.int .i64,.fQ,.int .i64 n=>(rL (0<n/\n*ei.bytes<=140737488355328)).bind fun _=>k {v:=.one (.rz (ct+1) ec.2 n),add:=[(ct+1,.row ec.1 ec.2)]}
  |.int .i64,.rw o d l,.int .i64 n=>(match Lj ec.2,ml ei.d,decEq d ec.2 with
   |true,false,isTrue h=>(look o ob).bind fun a=>(match a.2 with
    |.row e' d'=>(match Nat.beq e' ec.1,decEq d' ec.2 with
     |true,isTrue _=>(JT tb ec.2 ei.zero).bind fun z=>(rL (0<=n/\n*ei.bytes<=140737488355328)).bind fun _=>(app ei.bytes (xp h l) (List.replicate n.toNat z)).bind fun l2=>k {v:=.one (.rw (ct+1) ec.2 l2),rm:=[o],add:=[(ct+1,.row ec.1 ec.2)]}
     |_,_=>none)
    |_=>none)
   |_,_,_=>none)
  |_,_,_=>none
def Vj(t:TypeId)(v:CV S)(ob:List (Nat×Nat×AO S))(k:sS S->Option γ):Option γ:=
 (tt t).bind fun ti=>match ti.d with
 |.slice _=>(match v with
  |.sl _ l=>k (val (.int .i64 (l.length:Int)))
  |.slF _ l=>k (val (.int .i64 (l.length:Int)))
  |.rw _ _ l=>k (val (.int .i64 (l.length:Int)))
  |.fQ=>k (val (.int .i64 0))
  |.aw o=>(look o ob).bind fun a=>match a.2 with
   |.arr _ _ _ l=>k {v:=.one (.int .i64 (l.length:Int)),rd:=[o]}
   |_=>none
  |_=>none)
 |.str=>(match v with| .str l=>k (val (.int .i64 (l.length:Int)))|_=>none)
 |.map _ _=>(match v with
  |.mp o=>(look o ob).bind fun a=>match a.2 with
   |.map _ _ _ l _=>k {v:=.one (.int .i64 (l.length:Int)),rd:=[o]}
   |_=>none
  |_=>none)
 |_=>none
def MH(s d:TypeId)(v:CV S)(ob:List (Nat×Nat×AO S))(k:sS S->Option γ):Option γ:=
 (tt s).bind fun a=>(tt d).bind fun b=>match v,b.d with
 |.int _ x,.int kd=>k (val (wrI kd x))
 |.u8 x,.int .u8=>k (val (.u8 x))
 |.u8 x,.int .i8=>k (val (.int .i8 (IntKind.i8.wrap (x.toNat:Int))))
 |.u8 x,.int kd=>k (val (.int kd (x.toNat:Int)))
 |.str l,.str=>match a.d with| .str=>k (val (.str l))|_=>none
 |v,.str=>match a.d,a.co with
  |.slice e,.sl .u8=>(tt e).bind fun ei=>match ei.d with| .int .u8=>(slv (S:=S) .u8 v).bind fun l=>k (val (.str l))|_=>none
  |_,_=>none
 |.rw o c (y::l),.slice e=>match Nat.beq s d with
  |true=>(tt e).bind fun ei=>(look o ob).bind fun b=>match ei.d,b.2 with| .int .u8,.row _ _=>k {v:=.one (.sl c (y::l)),rm:=[o]}|_,_=>none
  |false=>none
 |_,_=>none
def xq:Co->AV S->Option (List (CV S))
 |.st _,.agg vs=>some vs
 |.st _,_=>none
 |_,.one v=>some [v]
 |_,_=>none
def AA(t:TypeId):Option (Co×Co×TI S):=(tt t).bind fun ti=>match ti.d,ti.co with
 |.map _ e,.mp kc vc=>(tt e).bind fun ei=>(match Ga tb kc&&(Uv vc&&!ml ei.d)with|true=>some (kc,vc,ei)|false=>none)
 |_,_=>none
def OA(vc:Co)(y:Option (T S vc))(z:T S vc)(ok:Bool):AV S:=match ok with
 |true=>.mf [.one (toCV vc (y.getD z)),.one (boB y.isSome)]
 |false=>.one (toCV vc (y.getD z))
def M8(t:TypeId)(v:CV S)(key:AV S)(ok:Bool)(ob:List (Nat×Nat×AO S))(k:sS S->Option γ):Option γ:=
 (AA tb tt t).bind fun i=>(xq i.1 key).bind fun cs=>(JT tb i.1 cs).bind fun x=>(JT tb i.2.1 i.2.2.zero).bind fun z=>match v with
 |.mp o=>(look o ob).bind fun a=>match a.2 with
  |.map t' kc vc l none=>(match Nat.beq t' t,decEq kc i.1,decEq vc i.2.1 with
   |true,isTrue h,isTrue h'=>k {v:=OA i.2.1 (dJ (qC tb i.1) (qt h h' l) x) z ok,rd:=[o]}
   |_,_,_=>none)
  |.sJ t' kc vc l none _=>(match Nat.beq t' t,decEq kc i.1,decEq vc i.2.1 with
   |true,isTrue h,isTrue h'=>k {v:=OA i.2.1 (dJ (qC tb i.1) (qt h h' l) x) z ok,rd:=[o]}
   |_,_,_=>none)
  |_=>none
 |_=>none
def VJ(t:TypeId)(v:CV S)(key w:AV S)(ob:List (Nat×Nat×AO S))(k:sS S->Option γ):Option γ:=
 (AA tb tt t).bind fun i=>(xq i.1 key).bind fun cs=>(JT tb i.1 cs).bind fun x=>(xq i.2.1 w).bind fun ws=>(JT tb i.2.1 ws).bind fun y=>match v with
 |.mp o=>(look o ob).bind fun a=>match a.2 with
  |.map t' kc vc l none=>(match Nat.beq t' t,decEq kc i.1,decEq vc i.2.1 with
   |true,isTrue h,isTrue h'=>k {v:=AV.ux S,rm:=[o],add:=[(o,.map t i.1 i.2.1 (lA (qC tb i.1) (qt h h' l) x y) none)]}
   |_,_,_=>none)
  |.sJ t' kc vc l none q=>(match Nat.beq t' t,decEq kc i.1,decEq vc i.2.1 with
   |true,isTrue h,isTrue h'=>(rL ((dJ (qC tb i.1) (qt h h' l) x).isSome=true)).bind fun _=>k {v:=AV.ux S,rm:=[o],add:=[(o,.sJ t i.1 i.2.1 (lA (qC tb i.1) (qt h h' l) x y) none q)]}
   |_,_,_=>none)
  |_=>none
 |_=>none
def U0(t:TypeId)(v:CV S)(key:AV S)(ob:List (Nat×Nat×AO S))(k:sS S->Option γ):Option γ:=
 (AA tb tt t).bind fun i=>(xq i.1 key).bind fun cs=>(JT tb i.1 cs).bind fun x=>match v with
 |.mp o=>(look o ob).bind fun a=>match a.2 with
  |.map t' kc vc l none=>(match Nat.beq t' t,decEq kc i.1,decEq vc i.2.1 with
   |true,isTrue h,isTrue h'=>k {v:=.mf [],rm:=[o],add:=[(o,.map t i.1 i.2.1 (Vq (qC tb i.1) (qt h h' l) x) none)]}
   |_,_,_=>none)
  |_=>none
 |_=>none
def IJ{a c:Co}(h:a=c)(x:T S a):T S c:=h▸x
def Nc(t:TypeId)(v:CV S)(key:AV S)(ob:List (Nat×Nat×AO S))(ct:Nat)(k:sS S->Option γ):Option γ:=
 (AA tb tt t).bind fun i=>(xq i.1 key).bind fun cs=>(JT tb i.1 cs).bind fun x=>(JT tb i.2.1 i.2.2.zero).bind fun z=>match v with
 |.mp o=>(look o ob).bind fun a=>match a.2 with
  |.map t' kc vc l none=>(match Nat.beq t' t,decEq kc i.1,decEq vc i.2.1 with
   |true,isTrue h,isTrue h'=>k {v:=.mf [.one (toCV i.2.1 ((dJ (qC tb i.1) (qt h h' l) x).getD z)),.one (.stp o (ct+1))],rm:=[o],add:=[(o,.map t i.1 i.2.1 (Se (qC tb i.1) (qt h h' l) x z) (some (x,ct+1)))]}
   |_,_,_=>none)
  |.sJ t' kc vc l none q=>(match Nat.beq t' t,decEq kc i.1,decEq vc i.2.1 with
   |true,isTrue h,isTrue h'=>(rL ((dJ (qC tb i.1) (qt h h' l) x).isSome=true)).bind fun _=>k {v:=.mf [.one (toCV i.2.1 ((dJ (qC tb i.1) (qt h h' l) x).getD z)),.one (.stp o (ct+1))],rm:=[o],add:=[(o,.sJ t i.1 i.2.1 (qt h h' l) (some (x,ct+1)) q)]}
   |_,_,_=>none)
  |_=>none
 |_=>none
def U5(t:TypeId)(v s:CV S)(w:AV S)(ob:List (Nat×Nat×AO S))(k:sS S->Option γ):Option γ:=
 (AA tb tt t).bind fun i=>(xq i.2.1 w).bind fun ws=>(JT tb i.2.1 ws).bind fun y=>match v,s with
 |.mp o,.stp o' q=>(match Nat.beq o o' with
  |true=>(look o ob).bind fun a=>match a.2 with
   |.map t' kc vc l (some (x,q'))=>(match Nat.beq t' t&&Nat.beq q q',decEq kc i.1,decEq vc i.2.1 with
    |true,isTrue h,isTrue h'=>k {v:=AV.ux S,rm:=[o],add:=[(o,.map t i.1 i.2.1 (lA (qC tb i.1) (qt h h' l) (IJ h x) y) none)]}
    |_,_,_=>none)
   |.sJ t' kc vc l (some (x,q')) q0=>(match Nat.beq t' t&&Nat.beq q q',decEq kc i.1,decEq vc i.2.1 with
    |true,isTrue h,isTrue h'=>k {v:=AV.ux S,rm:=[o],add:=[(o,.sJ t i.1 i.2.1 (lA (qC tb i.1) (qt h h' l) (IJ h x) y) none q0)]}
    |_,_,_=>none)
   |_=>none
  |false=>none)
 |_,_=>none
def H4(t:TypeId)(v:CV S)(ob:List (Nat×Nat×AO S))(ct:Nat)(k:sS S->Option γ):Option γ:=
 (AA tb tt t).bind fun i=>match v with
 |.mp o=>(look o ob).bind fun a=>match a.2 with
  |.map t' kc vc l none=>(match Nat.beq t' t,decEq kc i.1,decEq vc i.2.1 with
   |true,isTrue h,isTrue h'=>k {v:=.one (.ZS (ct+1)),rm:=[o],add:=[(o,.sJ t i.1 i.2.1 (qt h h' l) none (ct+1)),(ct+1,.IK i.1 o none)]}
   |_,_,_=>none)
  |_=>none
 |_=>none
def TP:(c:Co)->T S c->AV S
 |.st i,x=>.agg (S4 tb (.st i) x)
 |c,x=>.one (toCV c x)
def Hv(v:CV S)(ob:List (Nat×Nat×AO S))(k:sS S->Option γ):Option γ:=match v with
 |.ZS q=>(look q ob).bind fun b=>match b.2 with
  |.IK kc' o (some (some x))=>(look o ob).bind fun a=>match a.2 with
   |.sJ t kc vc l none q'=>(AA tb tt t).bind fun i=>(JT tb i.2.1 i.2.2.zero).bind fun z=>(match Nat.beq q' q,decEq kc' i.1,decEq kc i.1,decEq vc i.2.1 with
    |true,isTrue h0,isTrue h,isTrue h'=>k {v:=.mf [TP tb i.1 (IJ h0 x),.one (toCV i.2.1 ((dJ (qC tb i.1) (qt h h' l) (IJ h0 x)).getD z))],rd:=[q,o]}
    |_,_,_,_=>none)
   |_=>none
  |_=>none
 |_=>none
def ace:List (CV S)->Bool
 |[.fQ]=>true
 |_=>false
def Bf(t:TypeId):Option (Co×Co×TypeId):=(tt t).bind fun ti=>match ti.d,ti.co with
 |.map _ e,.mp kc (.sl c)=>(tt e).bind fun si=>(oX tt e).bind fun ec=>(match Ga tb kc&&ace si.zero,decEq ec.2 c with|true,isTrue _=>some (kc,c,ec.1)|_,_=>none)
 |_,_=>none
def HC(t:TypeId)(v:CV S)(key:AV S)(ok:Bool)(ob:List (Nat×Nat×AO S))(k:sS S->Option γ):Option γ:=
 (Bf tb tt t).bind fun i=>(xq i.1 key).bind fun cs=>(JT tb i.1 cs).bind fun x=>match v,ok with
 |.mp o,false=>(look o ob).bind fun a=>match a.2 with
  |.fk t' _ kc c l none=>(match Nat.beq t' t,decEq kc i.1,decEq c i.2.1 with
   |true,isTrue h,isTrue h'=>k {v:=.one (.sl i.2.1 ((dJ (qC tb i.1) (II h h' l) x).getD [])),rd:=[o]}
   |_,_,_=>none)
  |_=>none
 |_,_=>none
def HJ(t:TypeId)(v:CV S)(key:AV S)(ok:Bool)(ob:List (Nat×Nat×AO S))(ct:Nat)(k:sS S->Option γ):Option γ:=
 (Bf tb tt t).bind fun i=>(xq i.1 key).bind fun cs=>(JT tb i.1 cs).bind fun x=>match v,ok with
 |.mp o,false=>(look o ob).bind fun a=>match a.2 with
  |.fk t' et kc c l none=>(match Nat.beq t' t&&Nat.beq et i.2.2,decEq kc i.1,decEq c i.2.1 with
   |true,isTrue h,isTrue h'=>k {v:=.one (.rw (ct+1) i.2.1 ((dJ (qC tb i.1) (II h h' l) x).getD [])),rm:=[o],add:=[(o,.fk t i.2.2 i.1 i.2.1 (II h h' l) (some x)),(ct+1,.row i.2.2 i.2.1)]}
   |_,_,_=>none)
  |_=>none
 |_,_=>none
def TE{α:Type}(eq:α->α->Bool)(x:α)(h:Option α)(k:Option γ):Option γ:=match h with
 |none=>k
 |some y=>(rL (eq x y=true)).bind fun _=>k
def abb{a c:Co}(h:a=c)(x:Option (T S a)):Option (T S c):=h▸x
def MU(t:TypeId)(v:CV S)(key:AV S)(w:CV S)(ob:List (Nat×Nat×AO S))(k:sS S->Option γ):Option γ:=
 (Bf tb tt t).bind fun i=>(xq i.1 key).bind fun cs=>(JT tb i.1 cs).bind fun x=>match v,w with
 |.mp o,.rw p d l2=>(look o ob).bind fun a=>(look p ob).bind fun b=>match a.2,b.2 with
  |.fk t' et kc c l hole,.row et' c'=>(match Nat.beq t' t&&(Nat.beq et i.2.2&&Nat.beq et' i.2.2),decEq kc i.1,decEq c i.2.1,decEq c' i.2.1,decEq d i.2.1 with
   |true,isTrue h,isTrue h',isTrue _,isTrue hd=>TE (qC tb i.1) x (abb h hole) (k {v:=AV.ux S,rm:=[o,p],add:=[(o,.fk t i.2.2 i.1 i.2.1 (lA (qC tb i.1) (II h h' l) x (xp hd l2)) none)]})
   |_,_,_,_,_=>none)
  |_,_=>none
 |_,_=>none
def XH:List (CV S)->Bool
 |[.dY]=>true
 |_=>false
def HR(t:TypeId):Option Co:=(tt t).bind fun ti=>match ti.d,ti.co with
 |.map _ e,.mp kc (.a8 _)=>(tt e).bind fun fi=>(match Ga tb kc&&(XH fi.zero&&!ml fi.d)with|true=>some kc|false=>none)
 |_,_=>none
def PL{a c:Co}(h:a=c)(l:List (T S a×CV S)):List (T S c×CV S):=h▸l
def abY:CV S->Bool
 |.fn _ _ _=>true
 |_=>false
def K5(t:TypeId)(v:CV S)(key:AV S)(w:AV S)(ob:List (Nat×Nat×AO S))(k:sS S->Option γ):Option γ:=
 (HR tb tt t).bind fun i=>(xq i key).bind fun cs=>(JT tb i cs).bind fun x=>match v,w with
 |.mp o,.one f=>(look o ob).bind fun a=>match a.2 with
  |.Mq t' kc l=>(match Nat.beq t' t&&abY f,decEq kc i with
   |true,isTrue h=>(match(PL h l).any fun p=>qC tb i x p.1 with
    |true=>none
    |false=>k {v:=AV.ux S,rm:=[o],add:=[(o,.Mq t i (PL h l++[(x,f)]))]})
   |_,_=>none)
  |_=>none
 |_,_=>none
def K4(o:Nat)(c:Co)(x:T S c)(k:sS S->Option γ):List (T S c×CV S)->Option γ
 |[]=>k {v:=.one .dY,rd:=[o]}
 |p::l=>@ite _ (qC tb c x p.1=true) inferInstance (k {v:=.one p.2,rd:=[o]}) (K4 o c x k l)
def HQ(t:TypeId)(v:CV S)(key:AV S)(ok:Bool)(ob:List (Nat×Nat×AO S))(k:sS S->Option γ):Option γ:=
 (HR tb tt t).bind fun i=>(xq i key).bind fun cs=>(JT tb i cs).bind fun x=>match v,ok with
 |.mp o,false=>(look o ob).bind fun a=>match a.2 with
  |.Mq t' kc l=>(match Nat.beq t' t,decEq kc i with
   |true,isTrue h=>K4 tb o i x k (PL h l)
   |_,_=>none)
  |_=>none
 |_,_=>none
def CG:List (AV S)->Option (List (CV S))
 |[]=>some []
 |.one v::l=>(CG l).map (v:: ·)
 |.agg vs::l=>(CG l).map (.ag vs:: ·)
 |_::_=>none
def rU(place:Nat->Option (Nat×Nat)):List (CV S)->List (Nat×AV S)->Option (List (CV S))
 |cs,[]=>some cs
 |cs,(i,a)::l=>(place i).bind fun p=>(zj a).bind fun xs=>(X6 p.1 p.2 xs cs).bind fun cs'=>rU place cs' l
def jW(c:Co):List (Nat×AV S)->Option (List (T S c))
 |[]=>some []
 |(_,a)::l=>(zj a).bind fun xs=>(JT tb c xs).bind fun x=>(jW c l).map (x:: ·)
def KR:Nat->List (Nat×AV S)->Bool
 |_,[]=>true
 |i,(j,_)::l=>Nat.beq i j&&KR (i+1) l
def ES(f:TypeId×Nat×Nat)(v:CV S)(k:sS S->Option γ):Option γ:=match Nat.ble 1 f.2.2,v with
 |true,.ptr o off=>k (val (.ptr o (off+f.2.1)))
 |true,.el c x off=>k (val (.el c x (off+f.2.1)))
 |true,.Rd o v c x j off=>k (val (.Rd o v c x j (off+f.2.1)))
 |_,_=>none
def unK(op:UnOp)(v:CV S)(k:sS S->Option γ):Option γ:=match op,v with
 |.not,.tt b=>k (val (.tt !b))
 |.not,.bo b _ _ _=>k (val (Zt b))
 |.not,.na e n=>k (val (.na e (!n)))
 |.neg,.int kk x=>k (val (.int kk (kk.wrap (-x))))
 |.xor,.int kk x=>k (val (.int kk (jq kk (if kk.signed then -1 else kk.max) x)))
 |_,_=>none
def O2:Operand->Operand->Bool
 |.tmp a,.tmp b=>Nat.beq a b
 |.const (.int k n),.const (.int k' n')=>decide (k=k')&&decide (n=n')
 |_,_=>false
def core(o:Oper)(xs:List (AV S))(ob:List (Nat×Nat×AO S))(ct:Nat)(k:sS S->Option γ):Option γ:=
 match o.op with
 |.move _=>match xs with| [a]=>k {v:=a}|_=>none
 |.assign _=>match xs with| [a]=>k {v:=a}|_=>none
 |.pick _ _ _=>match xs with| [.one c,a,b]=>ifB c (fun z=>match z with|true=>k {v:=a}|false=>k {v:=b})|_=>none
 |.extract _ i=>match xs with| [.mf vs]=>(vs[i]?).bind fun a=>k {v:=a}|_=>none
 |.nilCheck _=>match xs with| [.one v]=>(match v with| .ptr _ _=>k (val v)| .fn (.func _) _ _=>k (val v)| .el _ _ _=>k (val v)| .Rd _ _ _ _ _ _=>k (val v)|_=>none)|_=>none
 |.binOp op t _ y _=>match xs with| [a,b]=>UM tt op t y a b fun v=>k (val v)|_=>none
 |.unOp op _ _=>match xs with
  |[.one v]=>unK op v k
  |_=>none
 |.convert s d _=>match xs with| [.one v]=>MH tt s d v ob k|_=>none
 |.fieldAddr t _ i=>match xs with
  |[.one v]=>(tt t).bind fun ti=>match ti.d with
   |.struct fs=>(fs[i]?).bind fun(f:TypeId×Nat×Nat)=>ES f v k
   |_=>none
  |_=>none
 |.field t _ i=>match xs with
  |[.agg vs]=>(tt t).bind fun ti=>match ti.d with
   |.struct fs=>(fs[i]?).bind fun(f:TypeId×Nat×Nat)=>(tt f.1).bind fun fi=>(match ml fi.d with
    |true=>((cutAt f.2.1 vs).bind (Aq fi.size)).bind fun l=>k {v:=.agg l}
    |false=>(Ci f.2.1 vs).bind fun v=>k (val v))
   |_=>none
  |_=>none
 |.build t parts=>(tt t).bind fun ti=>(match ti.d with
  |.struct fs=>rU (fun i=>(fs[i]?).map fun(f:TypeId×Nat×Nat)=>f.2) ti.zero ((parts.toList.map Prod.fst).zip xs)
  |.array _ e=>(tt e).bind fun ei=>rU (fun i=>some (i*ei.size,ei.size)) ti.zero ((parts.toList.map Prod.fst).zip xs)
  |_=>none).bind fun cs=>k {v:=.agg cs}
 |.makeFunc f first _=>(CG xs).bind fun vs=>k (val (.fn f (vs.take first.size) (vs.drop first.size)))
 |.alloc t=>(tt t).bind fun ti=>k {v:=.one (.ptr (ct+1) 0),add:=[(ct+1,.box t ti.zero)]}
 |.box t _=>match xs with| [a]=>(zj a).bind fun cs=>k {v:=.one (.ptr (ct+1) 0),add:=[(ct+1,.box t cs)]}|_=>none
 |.load t _=>match xs with| [.one v]=>M7 tb tt t v ob k|_=>none
 |.store t _ _=>match xs with| [.one p,a]=>Ip tb tt t p a ob k|_=>none
 |.indexAddr t _ y=>match xs with| [.one v,i]=>(idxOf i).bind fun i=>HN tt t y v i ob k|_=>none
 |.index t _ _=>(tt t).bind fun ti=>match ti.d,xs with
  |.str,[.one (.str l),i]=>(idxOf i).bind fun i=>(idx l i).bind fun c=>k (val (.u8 c))
  |.array n e,[.agg [.ai n' kk f],i]=>(tt e).bind fun ei=>(idxOf i).bind fun i=>(match Nat.beq n' n,Nat.beq ei.size 1,ml ei.d with
   |true,true,false=>(rL (0<=i/\i<n)).bind fun _=>k (val (.int kk (dQ f i)))
   |_,_,_=>none)
  |_,_=>none
 |.slice t _ lo hi mx=>match xs with
  |.one v::r=>(Bt lo r).bind fun a=>(Bt hi a.2).bind fun b=>(Bt mx b.2).bind fun c=>match v with| .ptr o off=>(match has t fa.parts with|true=>DA tt t o off a.1 b.1 c.1 ob k|false=>DB tt t o off a.1 b.1 c.1 k)|v=>(match has t fa.parts&&a.1.isSome with|true=>Nl tt t v a.1 b.1 c.1 ob ct k|false=>E3 tt t v a.1 b.1 c.1 ob ct k)
  |_=>none
 |.buildSlice t len parts=>(oX tt t).bind fun ec=>(tt ec.1).bind fun ei=>
  let ps:=(parts.toList.map Prod.fst).zip xs
  match Nat.beq len xs.length&&KR 0 ps&&Nat.ble (len*ei.size) 16777216 with
  |true=>(jW tb ec.2 ps).bind fun l=>match has t fa.lits||(Nat.beq len 0&&has t fa.lL)with
   |true=>k {v:=.one (.aw (ct+1)),add:=[(ct+1,.arr ec.1 ec.2 true l)]}
   |false=>k {v:=.one (.rw (ct+1) ec.2 l),add:=[(ct+1,.row ec.1 ec.2)]}
  |false=>none
 |.makeMap t r=>match r,xs with
  |none,[]=>(match AA tb tt t with
   |some i=>k {v:=.one (.mp (ct+1)),add:=[(ct+1,.map t i.1 i.2.1 [] none)]}
   |none=>(match Bf tb tt t with
    |some i=>k {v:=.one (.mp (ct+1)),add:=[(ct+1,.fk t i.2.2 i.1 i.2.1 [] none)]}
    |none=>(HR tb tt t).bind fun i=>k {v:=.one (.mp (ct+1)),add:=[(ct+1,.Mq t i [])]}))
  |_,_=>none
 |.lookup t _ _ ok=>match xs with| [.one v,key]=>(match(AA tb tt t).isSome,(Bf tb tt t).isSome with|true,_=>M8 tb tt t v key ok ob k|false,true=>(match has t fa.takes with|true=>HJ tb tt t v key ok ob ct k|false=>HC tb tt t v key ok ob k)|false,false=>HQ tb tt t v key ok ob k)|_=>none
 |.mapEntry t _ _=>match xs with| [.one v,key]=>Nc tb tt t v key ob ct k|_=>none
 |.entryStore t _ _ _=>match xs with| [.one v,.one s,w]=>U5 tb tt t v s w ob k|_=>none
 |.mapUpdate t _ _ _=>match xs with| [.one v,key,w]=>(match(AA tb tt t).isSome,(Bf tb tt t).isSome with|true,_=>VJ tb tt t v key w ob k|false,true=>(match w with| .one w=>MU tb tt t v key w ob k|_=>none)|false,false=>K5 tb tt t v key w ob k)|_=>none
 |.range t _=>match xs with| [.one v]=>H4 tb tt t v ob ct k|_=>none
 |.entry _=>match xs with| [.one v]=>Hv tb tt v ob k|_=>none
 |.makeSlice t x y=>match xs,O2 x y with
  |[a,_],true=>(idxOf a).bind fun n=>(oX tt t).bind fun ec=>(tt ec.1).bind fun ei=>(match Lj ec.2,ml ei.d with
   |true,false=>(JT tb ec.2 ei.zero).bind fun z=>(rL (0<=n/\n*ei.bytes<=140737488355328)).bind fun _=>
    k {v:=.one (.aw (ct+1)),add:=[(ct+1,.arr ec.1 ec.2 true (List.replicate n.toNat z))]}
   |_,_=>none)
  |_,_=>none
 |.call c=>match c.callee with
  |.builtin b=>match b,xs with
   |.len,[.one v]=>(match c.argTypes.toList with| [t]=>Vj tt t v ob k|_=>none)
   |.append,[.one v,.one w]=>(match c.argTypes.toList with| [t,t']=>(match Nat.beq t t' with|true=>(match v,w with| .rw q d l,.px o off n i j=>Af tt t q d l o off n i j ob ct k|v,w=>Dd tt fa t v w ob ct k)|false=>Ag tb tt t t' v w ob ct k)|_=>none)
   |.copy,[.one v,.one w]=>(match c.argTypes.toList with| [t,_]=>MJ tt t v w ob k|_=>none)
   |.clear,[.one v]=>(match c.argTypes.toList with| [t]=>Hr tb tt t v ob k|_=>none)
   |.delete,[.one v,key]=>(match c.argTypes.toList with| [t,_]=>U0 tb tt t v key ob k|_=>none)
   |.cap,[.one .fQ]=>(match c.argTypes.toList with| [t]=>(oX tt t).bind fun _=>k (val (.int .i64 0))|_=>none)
   |.min,[.one v,.one w]=>(num v).bind fun x=>(num w).bind fun y=>match decEq x.1 y.1 with|isTrue _=>k (val (Re x.1 (lP x.2 y.2)))|isFalse _=>none
   |.max,[.one v,.one w]=>(num v).bind fun x=>(num w).bind fun y=>match decEq x.1 y.1 with|isTrue _=>k (val (Re x.1 (imax x.2 y.2)))|isFalse _=>none
   |_,_=>none
  |.value _=>match xs with
   |.one (.fn (.func f) first caps)::args=>(match Nat.ble f 999999 with|true=>zi tb f (first.map G3++args++caps.map G3) ob ct k Φ|false=>none)
   |.one (.yl q)::args=>(look q ob).bind fun a=>match a.2 with| .loop r .ready _=>zi tb (Y5 r) (.one (.yl q)::args) ob ct k Φ|_=>none
   |_=>none
  |.invoke _ _=>none
 |.insert t _ _ _=>match xs with| [.one v,key,w]=>K5 tb tt t v key w ob k|_=>none
 |_=>none
end
def Db:CV S->List Value
 |.int k x=>[.int k x]
 |.u8 x=>[.int .u8 (x.toNat:Int)]
 |.tt b=>[.bool b]
 |.str l=>[.string (Proofs.YtekpafdhgkocaaaGreat.str l)]
 |.fQ=>[.slice none 0 0]
 |.l7=>[.pointer none]
 |.dY=>[.nilFunc]
 |.B4=>[.map none]
 |.Gg=>[.nilIface]
 |.a8 n f=>(List.range n).map (fun i=>.int .u8 ((f i).toNat:Int))
 |.ai n k f=>(List.range n).map (fun i=>.int k (f i))
 |_=>[]
def qN(vs:List (CV S)):List Value:=vs.flatMap Db
def eqV:Value->Value->Bool
 |.int k n,.int k' n'=>decide (k=k')&&decide (n=n')
 |.bool b,.bool b'=>b == b'
 |.slice none 0 0,.slice none 0 0=>true
 |.pointer none,.pointer none=>true
 |.nilFunc,.nilFunc=>true
 |.map none,.map none=>true
 |.nilIface,.nilIface=>true
 |.string s,.string s'=>decide (s.data.toList=s'.data.toList)
 |_,_=>false
def U4:List Value->List Value->Bool
 |[],[]=>true
 |v::vs,w::ws=>match eqV v w with|true=>U4 vs ws|false=>false
 |_,_=>false
def JD:Value->Option (CV S)
 |.int .u8 n=>match decEq (n % 256) n with|isTrue _=>some (.u8 (G.u8 n))|isFalse _=>none
 |.int k n=>some (.int k n)
 |.bool b=>some (.tt b)
 |.string s=>some (.str s.data.toList)
 |.slice none 0 0=>some .fQ
 |.pointer none=>some .l7
 |.nilFunc=>some .dY
 |.map none=>some .B4
 |.nilIface=>some .Gg
 |_=>none
def Ao:List Value->Option (List (CV S))
 |[]=>some []
 |v::vs=>(JD v).bind fun x=>(Ao vs).map (x:: ·)
def N5(tt:TypeId->Option (TI S))(t:TypeId):Value->Option (AV S)
 |.agg cs=>match tt t with
  |some i=>(match U4 (qN i.zero) cs.toList with|true=>some (.agg i.zero)|false=>(Ao cs.toList).map .agg)
  |none=>(Ao cs.toList).map .agg
 |.tuple vs=>match vs.toList with| []=>some (AV.ux S)|_=>none
 |v=>(JD v).map .one
def QA(o:Oper):List TypeId:=match o.op with
 |.move _=>[o.type]
 |.assign _=>[o.type]
 |.store t _ _=>[0,t]
 |.binOp _ t _ _ _=>[t,t]
 |.call c=>match c.callee with| .builtin _=>c.argTypes.toList|_=>0::c.argTypes.toList
 |_=>[]
def AS.get(σ:AS S)(t:Tmp):Option (Nat×AV S):=look (σ.fb+t) σ.tm
def zx(tt:TypeId->Option (TI S))(σ:AS S)(t:TypeId):Operand->Option (AV S)
 |.tmp u=>(σ.get u).map (·.2)
 |.const v=>N5 tt t v
 |.func f=>some (.one (.fn (.func f) [] []))
 |.global _=>none
def AE(tt:TypeId->Option (TI S))(σ:AS S):List TypeId->List Operand->Option (List (AV S))
 |_,[]=>some []
 |[],x::xs=>(zx tt σ 0 x).bind fun a=>(AE tt σ [] xs).map (a:: ·)
 |t::ts,x::xs=>(zx tt σ t x).bind fun a=>(AE tt σ ts xs).map (a:: ·)
def QR(cJ:Nat)(b:Bool):List (Nat×Nat×AV S)->List (Nat×Nat×AV S)
 |[]=>[]
 |(t,v,a)::l=>match Nat.beq v cJ with|true=>(t,v,.one (.tt b))::QR cJ b l|false=>(t,v,a)::QR cJ b l
def AS.q8(σ:AS S)(cJ:Nat)(b:Bool):AS S:={σ with tm:=QR cJ b σ.tm}
def AS.put(σ:AS S)(d:Option Tmp)(cJ:Option Nat)(v:AV S):AS S:=match d with
 |some d=>{σ with tm:=(σ.fb+d,cJ.getD σ.ct,v)::drop1 (σ.fb+d) σ.tm}
 |none=>σ
def DH(v:Nat):List (Nat×AO S)->List (Nat×Nat×AO S)
 |[]=>[]
 |(q,a)::l=>(q,v,a)::DH (v+1) l
def AS.My(σ:AS S)(d:Option Tmp)(cJ:Option Nat)(r:sS S):AS S:=
 {σ.put d cJ r.v with ob:=DH (σ.ct+32) r.add++gW r.rm σ.ob,ct:=σ.ct+64}
def xe(σ:AS S):Op->Option Nat
 |.move (.tmp t)=>(σ.get t).map (·.1)
 |.assign (.tmp t)=>(σ.get t).map (·.1)
 |_=>none
abbrev Log:=List (Nat×List Nat×List Nat)
def Gd(ops:Array Oper):Log->Bool
 |[]=>true
 |(j,rd,rm)::l=>(l.all fun p=>D.Wa ops p.1 j||!(rm.any (fun x=>has x p.2.1||has x p.2.2)||rd.any fun x=>has x p.2.2))&&Gd ops l
section
variable {γ:Type}(tt:TypeId->Option (TI S))(Φ:List (cV S))(fa:FA S)
def Cs(ops:Array Oper)(g:Option (Nat×Bool))(σ:AS S)(go:Bool->AS S->Option γ):Option γ:=match g with
 |none=>go true σ
 |some (j,b)=>match(BJ ops j).bind σ.get with
  |some (cJ,.one v)=>(match v with
   |.tt c=>go (c == b) σ
   |.bo _ p d _=>@ite _ p d (go b (σ.q8 cJ true)) (go (!b) (σ.q8 cJ false))
   |_=>none)
  |some (_,.mf [])=>go false σ
  |_=>none
def zm(sq:Bool)(ops:Array Oper):List Oper->Nat->AS S->Log->(AS S->Log->Option γ)->Option γ
 |[],_,σ,lg,k=>k σ lg
 |o::rest,i,σ,lg,k=>Cs ops o.guard σ fun run σ=>match run with
  |false=>zm sq ops rest (i+1) {σ.put o.dst none (AV.ux S)with ct:=σ.ct+64} lg k
  |true=>match AE tt σ (QA o) o.op.operands.toList with
   |some xs=>match aae fa sq o xs with
    |none=>core tb tt Φ fa o xs σ.ob σ.ct fun r=>match nv (r.rd++r.rm)with
     |true=>zm sq ops rest (i+1) (σ.My o.dst (xe σ o.op) r) ((i,r.rd,r.rm++r.add.map (·.1))::lg) k
     |false=>none
    |some fx=>vK tb fx.1 fx.2 σ.ob σ.ct (fun r=>zm sq ops rest (i+1) (σ.My o.dst none r) lg k) fa.nd
   |none=>none
end
inductive An where
 |o
 |u (a:An)
 |b (l r:An)
 |j (J:JA) (a:An)
 |lp (J:JA) (a:An)
 |mr (J:JA) (q:Nat) (a:An)
 |z (l:List (Nat×Nat×PrK)) (a:An)
 deriving Inhabited
def An.l1:An->An
 |.u a=>a
 |.b l _=>l
 |_=>.o
def An.r1:An->An
 |.b _ r=>r
 |_=>.o
variable (S) in
def Kp(β:Type):=∀γ:Type,(β->γ)->V7->AS S->Option γ
variable (S) in
def W:=An->AS S->(β:Type)->Kp S β->(γ:Type)->(β->γ)->Option γ
def xU:Code->List Nat
 |.seq x y=>xU x++xU y
 |.cond _ x y=>xU x++xU y
 |.block _ x=>xU x
 |.scope x=>xU x
 |.loop x=>xU x
 |.region _ ops _=>ops.toList.filterMap (·.dst)
 |.rangeFunc _ ps x y=>ps.toList++(xU x++xU y)
 |_=>[]
def JA.at_(J:JA)(c:Code)(fb:Nat):JA:={J with kill:=(xU c).map (fb+ ·)++J.kill}
def kN(J:JA)(σ:AS S):Kp S (HT S J.ls):=fun _ e ex σ'=>match ex with
 |.normal=>(pack tb J σ σ').bind fun z=>some (e z)
 |_=>none
def kJ(J:JA)(σ:AS S){β γ:Type}(κ:Kp S β)(emb:β->γ):Kp S (HT S J.ls⊕γ):=fun δ e ex σ'=>match ex with
 |.normal=>(pack tb J σ σ').bind fun z=>some (e (.inl z))
 |ex=>κ δ (fun b=>e (.inr (emb b))) ex σ'
def kS{β:Type}(f:W S)(an:An)(κ:Kp S β):Kp S β:=fun δ e ex σ'=>match ex with
 |.normal=>f an σ' β κ δ e
 |ex=>κ δ e ex σ'
def kB{β:Type}(id:Nat)(κ:Kp S β):Kp S β:=fun δ e ex σ'=>match ex with
 |.exit n=>match Nat.beq n id with|true=>κ δ e .normal σ'|false=>κ δ e (.exit n) σ'
 |ex=>κ δ e ex σ'
def wj0(c:Code)(f:W S):W S:=fun an σ β κ γ emb=>match an with
 |.j J a=>match J.early with
  |false=>(f a σ (HT S J.ls) (kN tb (J.at_ c σ.fb) σ) (HT S J.ls) id).bind fun z=>
   match unpack tb (J.at_ c σ.fb) σ z with|some σ1=>κ γ emb .normal σ1|none=>none
  |true=>(f a σ (HT S J.ls⊕γ) (kJ tb (J.at_ c σ.fb) σ κ emb) (HT S J.ls⊕γ) id).bind fun z=>
   sx z fun u=>match unpack tb (J.at_ c σ.fb) σ u with|some σ1=>κ γ emb .normal σ1|none=>none
 |a=>f a σ β κ γ emb
def wj(c:Code)(f:W S):W S:=fun an σ β κ γ emb=>match an with
 |.z l a=>match H2 l σ with|some σ1=>wj0 tb c f a σ1 β κ γ emb|none=>none
 |an=>wj0 tb c f an σ β κ γ emb
def BD:Code->Nat
 |.region id _ _=>id
 |.seq x _=>BD x
 |_=>0
def wh(σ:AS S)(lp:AO S):AS S:={σ with ob:=(σ.ct+1,σ.ct+32,lp)::σ.ob,ct:=σ.ct+64}
def sW(q:Nat)(σ2:AS S){β γ:Type}(κ:Kp S β)(emb:β->γ):Option γ:=
 match look q σ2.ob with
 |some (_,.loop _ st _)=>(match st with
  |.ready=>κ γ emb .normal {σ2 with ob:=gW [q] σ2.ob}
  |.done .ret=>κ γ emb .ret {σ2 with ob:=gW [q] σ2.ob}
  |.done (.exit n)=>κ γ emb (.exit n) {σ2 with ob:=gW [q] σ2.ob}
  |_=>none)
 |_=>none
def hd2(ops:Array Oper):Option (Nat×Nat×Nat):=match ops.toList with
 |[a,b]=>match a.op,a.dst,a.guard,b.op,b.dst,b.guard with
  |.next (.tmp it) false,some nx,none,.extract (.tmp nx') 0,some c,none=>(match Nat.beq nx nx' with|true=>some (it,nx,c)|false=>none)
  |_,_,_,_,_,_=>none
 |_=>none
def Tp(t:Nat)(l:List (Nat×Nat×AV S)):List (Nat×Nat×AV S):=l.filter fun p=>!Nat.beq p.1 t
def AS.fI(σ:AS S)(t:Nat):AS S:={σ with tm:=Tp (σ.fb+t) σ.tm}
def Sg(q it:Nat)(σ:AS S):Bool:=match σ.get it,look q σ.ob with
 |some (_,.one (.ZS q')),some (_,.IK kc o _)=>(match look o σ.ob with
  |some (_,.sJ _ kc' _ _ none q2)=>Nat.beq q' q&&(Nat.beq q2 q&&match decEq kc' kc with|isTrue _=>true|isFalse _=>false)
  |_=>false)
 |_,_=>false
def Vs(q it nx c:Nat){kc:Co}(x:T S kc)(σ:AS S):Option (AS S):=match look q σ.ob with
 |some (_,.IK kc' o _)=>(match decEq kc kc',Sg q it σ with
  |isTrue h,true=>some (Pz {(σ.fI nx).fI c with ob:=gW [q] σ.ob} q (.IK kc' o (some (some (IJ h x)))))
  |_,_=>none)
 |_=>none
def Ng(q it nx c:Nat)(σ:AS S):Option (AS S):=match look q σ.ob with
 |some (_,.IK _ o _)=>(match look o σ.ob,Sg q it σ with
  |some (_,.sJ t kc vc l none _),true=>some (Pz {((σ.fI nx).fI c).fI it with ob:=gW [o] (gW [q] σ.ob)} o (.map t kc vc l none))
  |_,_=>none)
 |_=>none
def kM(q ver:Nat)(J:JA)(σ:AS S){β γ:Type}(κ:Kp S β)(emb:β->γ):Kp S (HT S J.ls⊕γ):=fun δ e ex σ'=>match ex with
 |.normal=>(match look q σ'.ob with
  |some (v,_)=>(match Nat.beq v ver with|true=>(pack tb J σ σ').bind fun z=>some (e (.inl z))|false=>none)
  |none=>none)
 |ex=>κ δ (fun b=>e (.inr (emb b))) ex σ'
def Xi{kc kc' vc:Co}(h:kc'=kc)(l:List (T S kc'×T S vc)):List (T S kc):=h▸l.map (·.1)
noncomputable def mrK(J:JA)(q:Nat)(σ:AS S)(it nx c out:Nat)(f:AS S->(β:Type)->Kp S β->(γ:Type)->(β->γ)->Option γ){β γ:Type}(κ:Kp S β)(emb:β->γ):Option γ:=match look q σ.ob with
 |some (_,.IK kc o none)=>(match look o σ.ob with
  |some (_,.sJ _ kc1 _ l none q1)=>(match decEq kc1 kc,Nat.beq q1 q with
   |isTrue h,true=>(pack tb J σ σ).bind fun z0=>Ad (fun p:List (T S kc)=>p.Perm (Xi h l)) fun p=>pT
    (fun x z=>match unpack tb J σ z with
     |some σ1=>(match Vs q it nx c x σ1 with
      |some σ2=>f σ2 (HT S J.ls⊕γ) (kM tb q (σ1.ct+32) J σ κ emb) (HT S J.ls⊕γ) id
      |none=>none)
     |none=>none)
    (fun z=>match unpack tb J σ z with
     |some σ1=>(match Ng q it nx c σ1 with
      |some σ2=>κ γ emb (.exit out) σ2
      |none=>none)
     |none=>none) p z0
   |_,_=>none)
  |_=>none)
 |_=>none
section
variable (tt:TypeId->Option (TI S))(Φ:List (cV S))(fa:FA S)
noncomputable def FY:Code->W S
 |.skip=>wj tb (.skip) fun _ σ _ κ γ emb=>κ γ emb .normal σ
 |.label _=>wj tb (.label default) fun _ σ _ κ γ emb=>κ γ emb .normal σ
 |.ret=>wj tb (.ret) fun _ σ _ κ γ emb=>κ γ emb .ret σ
 |.exit n=>wj tb (.exit n) fun _ σ _ κ γ emb=>κ γ emb (.exit n) σ
 |.seq x y=>wj tb (.seq x y) fun an σ β κ γ emb=>FY x an.l1 σ β (kS (FY y) an.r1 κ) γ emb
 |.cond c x y=>wj tb (.cond c x y) fun an σ β κ γ emb=>match c with
  |.tmp t=>match σ.get t with
   |some (cJ,.one v)=>(match v with
    |.tt true=>FY x an.l1 σ β κ γ emb
    |.tt false=>FY y an.r1 σ β κ γ emb
    |.bo _ p d _=>@ite _ p d (FY x an.l1 (σ.q8 cJ true) β κ γ emb) (FY y an.r1 (σ.q8 cJ false) β κ γ emb)
    |.na true _=>agree (FY x an.l1 (σ.q8 cJ true) β κ γ emb) (FY y an.r1 (σ.q8 cJ false) β κ γ emb)
    |.na false true=>FY x an.l1 (σ.q8 cJ true) β κ γ emb
    |.na false false=>FY y an.r1 (σ.q8 cJ false) β κ γ emb
    |_=>none)
   |_=>none
  |.const (.bool true)=>FY x an.l1 σ β κ γ emb
  |.const (.bool false)=>FY y an.r1 σ β κ γ emb
  |_=>none
 |.block id body=>wj tb (.block id body) fun an σ β κ γ emb=>FY body an.l1 σ β (kB id κ) γ emb
 |.scope body=>wj tb (.scope body) fun an σ β κ γ emb=>FY body an.l1 σ β κ γ emb
 |.loop body=>wj tb (.loop body) fun an σ _ κ γ emb=>match an with
  |.lp J a=>(pack tb (J.at_ (.loop body) σ.fb) σ σ).bind fun z0=>Iter (fun z=>match unpack tb (J.at_ (.loop body) σ.fb) σ z with
   |some σ1=>FY body a σ1 (HT S J.ls⊕γ) (kJ tb (J.at_ (.loop body) σ.fb) σ κ emb) (HT S J.ls⊕γ) id
   |none=>none) z0
  |.mr J q a=>(match body with
   |.seq (.region _ ops false) (.seq (.cond (.tmp c') .skip (.exit out)) rest)=>(match hd2 ops with
    |some (it,nx,c)=>(match Nat.beq c' c with
     |true=>mrK tb (J.at_ (.loop body) σ.fb) q σ it nx c out (fun σ2 β κ γ emb=>FY rest a σ2 β κ γ emb) κ emb
     |false=>none)
    |none=>none)
   |_=>none)
  |_=>none
 |.region _ ops draw=>wj tb (.region default ops draw) fun _ σ _ κ γ emb=>zm tb tt Φ fa (!draw) ops ops.toList 0 σ [] fun σ' lg=>match !draw||(Gd ops lg&&nv (σ'.ob.map (·.1)))with
  |true=>κ γ emb .normal σ'
  |false=>none
 |.rangeFunc g ps x y=>wj tb (.rangeFunc g ps x y) fun _ σ _ κ γ emb=>match fa.rd,σ.fb,zx tt σ 0 g with
  |false,0,some (.one (.fn (.func f) [] caps))=>(match Nat.ble f 999999 with
   |true=>(match fa.nd.any fun c=>Nat.beq c.f f with
    |false=>zi tb f (.one (.yl (σ.ct+1))::caps.map G3) (wh σ (.loop (fa.fn*1000+BD x) .ready σ.tm)).ob (σ.ct+64) (fun r=>match nv (r.rd++r.rm)with
     |true=>sW (σ.ct+1) ((wh σ (.loop (fa.fn*1000+BD x) .ready σ.tm)).My none none r) κ emb
     |false=>none) Φ
    |true=>vK tb f (.one (.yl (σ.ct+1))::caps.map G3) (wh σ (.loop (fa.fn*1000+BD x) .ready σ.tm)).ob (σ.ct+64) (fun r=>sW (σ.ct+1) ((wh σ (.loop (fa.fn*1000+BD x) .ready σ.tm)).My none none r) κ emb) fa.nd)
   |false=>none)
  |_,_,_=>none
 |.goto _=>fun _ _ _ _ _ _=>none
 |.refuse _=>fun _ _ _ _ _ _=>none
def Ca:Nat->List (AV S)->List (Nat×Nat×AV S)
 |_,[]=>[]
 |i,a::l=>(i,64+i,a)::Ca (i+1) l
def start(c:cV S)(x:HT S c.ls):Option (AS S):=
 (xr c.bk (Au c.ls x)).bind fun ds=>(PS.kX tb id c.ins ds).bind fun p=>(OS.kX tb id c.eW p.2).bind fun q=>
 some {tm:=Ca 0 p.1,ob:=Qo 0 q.1,ct:=256,fb:=0,rt:=List.range c.eW.length}
def uW(tt:TypeId->Option (TI S))(σ:AS S):List ResultVar->Option (List (AV S))
 |[]=>some []
 |.tmp t::l=>(σ.get t).bind fun a=>(uW tt σ l).map (a.2:: ·)
 |.cell t ty::l=>(σ.get t).bind fun a=>match a.2 with
  |.one (.ptr o 0)=>(look o σ.ob).bind fun b=>match b.2 with
   |.box _ cs=>(tt ty).bind fun i=>(match ml i.d with|true=>(Aq i.size cs).map AV.agg|false=>(Ci 0 cs).map AV.one).bind fun v=>(uW tt σ l).map (v:: ·)
   |_=>none
  |_=>none
def CF:List (AV S)->AV S
 |[a]=>a
 |l=>.mf l
def OS.po(ob:List (Nat×Nat×AO S))(mp:List (Nat×Nat)):Nat->List KS->Option (List (qn S)×List (Nat×Nat))
 |_,[]=>some ([],mp)
 |o,.now s::l=>(look o mp).bind fun q=>(look q ob).bind fun a=>(OS.take tb mp s a.2).bind fun p=>(OS.po ob p.2 (o+1) l).map fun r=>(p.1++r.1,r.2)
 |o,_::l=>OS.po ob mp (o+1) l
def Uc:Nat->List Nat->List (Nat×Nat)
 |_,[]=>[]
 |i,x::l=>(i,x)::Uc (i+1) l
def K3(σ0 σ:AS S):Nat->List KS->Bool
 |_,[]=>true
 |o,.kept::l=>(match σ.rt[o]? with|some q=>Nat.beq q o|none=>false)&&(match look o σ0.ob,look o σ.ob with|some x,some y=>Nat.beq x.1 y.1|_,_=>false)&&K3 σ0 σ (o+1) l
 |o,_::l=>K3 σ0 σ (o+1) l
def tN(mp:List (Nat×Nat)):Nat->List KS->List Nat
 |_,[]=>[]
 |o,.now _::l=>match look o mp with|some q=>q::tN mp (o+1) l|none=>tN mp (o+1) l
 |o,_::l=>tN mp (o+1) l
def qU:Nat->List KS->List Nat
 |_,[]=>[]
 |o,.kept::l=>o::qU (o+1) l
 |o,_::l=>qU (o+1) l
def finish(n:Nat)(o:Out)(v:AV S)(σ0 σ:AS S):Option (HT S o.Bo):=
 (PS.take tb (Uc 0 σ.rt) o.out v).bind fun p=>(OS.po tb σ.ob p.2 0 o.lB).bind fun q=>
 match K3 σ0 σ 0 o.lB&&(nv (qU 0 o.lB++tN q.2 0 o.lB)&&Nat.beq σ.rt.length n&&q.2.all fun p=>Nat.ble (p.1+1) o.lB.length)with
 |true=>(xr o.pm' (p.1++q.1)).bind (BT o.Bo)
 |false=>none
def zo(n:Nat)(v:AV S)(σ0 σ:AS S):(os:List Out)->Option (q9 S os)
 |[]=>none
 |[o]=>finish tb n o v σ0 σ
 |o::p::os=>match finish tb n o v σ0 σ with
  |some z=>some (Sum.inl z)
  |none=>(zo n v σ0 σ (p::os)).map Sum.inr
noncomputable def evF(c:cV S)(rs:List ResultVar)(body:Code)(an:An)(x:HT S c.ls):Option (q9 S c.outs):=
 match start tb c x with
 |some σ0=>FY tb tt Φ fa body an σ0 (q9 S c.outs) (fun _ e' ex σ=>match ex with
  |.exit _=>none
  |_=>(H2 fa.pre σ).bind fun σ=>(uW tt σ rs).bind fun vs=>(zo tb c.eW.length (CF vs) σ0 σ c.outs).bind fun y=>some (e' y)) (q9 S c.outs) id
 |none=>none
noncomputable def evN(c:NC S)(rs:List ResultVar)(body:Code)(an:An)(γ:Type)(k:HT S c.out.Bo->Option γ)(x:HT S c.ls):Option γ:=
 match start tb c.ctr x with
 |some σ0=>FY tb tt Φ fa body an σ0 γ (fun _ e' ex σ=>match ex with
  |.exit _=>none
  |_=>(H2 fa.pre σ).bind fun σ=>(uW tt σ rs).bind fun vs=>(finish tb c.eW.length c.out (CF vs) σ0 σ).bind fun y=>(k y).map e') γ id
 |none=>none
def LA:List Nat->List (Nat×Nat×AV S)->List (Nat×Nat×AV S)->Option (List (Nat×Nat×AV S))
 |[],[],tm=>some tm
 |p::ps,(_,cJ,v)::l,tm=>LA ps l ((p,cJ,v)::drop1 p tm)
 |_,_,_=>none
def X9:Nat->List (Nat×Nat×AV S)->List (Nat×Nat×AV S)
 |_,[]=>[]
 |v,(t,_,x)::l=>(t,v,x)::X9 (v+1) l
def YD(r:Nat)(ps:List Nat)(σ:AS S):Option (AS S):=match look 0 σ.ob,σ.tm with
 |some (_,.loop r' .ready tm),(_,_,.one (.yl 0))::l=>(match Nat.beq r' r&&Nat.ble tm.length 200 with|true=>(LA ps l (X9 300 tm)).map fun tm'=>{σ with tm:=tm',ct:=512}|false=>none)
 |_,_=>none
def K9(st0 st:LS)(σ:AS S):Option (AS S):=(σ.rt[0]?).bind fun q=>(look q σ.ob).bind fun a=>match a.2 with
 |.loop r st1 tm=>(match LS.same st1 st0 with|true=>some {σ with ob:=(q,σ.ct+32,.loop r st tm)::gW [q] σ.ob,ct:=σ.ct+64}|false=>none)
 |_=>none
def exB:V7->Bool
 |.normal=>true
 |_=>false
def Z3:V7->LS
 |.normal=>.ready
 |e=>.done e
noncomputable def evY(c:cV S)(r:Nat)(ps:List Nat)(aS body:Code)(an:An)(x:HT S c.ls):Option (q9 S c.outs):=
 match start tb c x with
 |some σ0=>(match YD r ps σ0 with
  |some σ1=>FY tb tt Φ fa aS an.l1 σ1 (q9 S c.outs) (fun _ e' ex σ2=>match ex with
   |.normal=>(K9 .ready .busy σ2).bind fun σ3=>FY tb tt Φ fa body an.r1 σ3 (q9 S c.outs) (fun _ e2 ex σ4=>(K9 .busy (Z3 ex) σ4).bind fun σ5=>
    (H2 fa.pre σ5).bind fun σ6=>(zo tb c.eW.length (.one (.tt (exB ex))) σ0 σ6 c.outs).bind fun y=>some (e2 y)) _ e'
   |_=>none) (q9 S c.outs) id
  |none=>none)
 |none=>none
end
end E
end Go.Proofs.YtekpafdhgkocaaaGreat
