/- Part of the proof. -/
import Derived.Test.YtekpafdhgkocaaaGreatZLift
namespace Go.Proofs.YtekpafdhgkocaaaGreat
open Go.RowKit G
namespace E
inductive Co where
 |int (k:IntKind)
 |u8
 |bo
 |str
 |sl (c:Co)
 |st (i:Nat)
 |a8 (n:Nat)
 |ai (n:Nat) (k:IntKind)
 |mp (k v:Co)
 deriving DecidableEq,Inhabited
def T(S:Nat->Type):Co->Type
 |.int _=>Int
 |.u8=>UInt8
 |.bo=>Bool
 |.str=>List UInt8
 |.sl c=>List (T S c)
 |.st i=>S i
 |.a8 _=>Nat->UInt8
 |.ai _ _=>Nat->Int
 |.mp k v=>List (T S k×T S v)
def HL(S:Nat->Type):List Co->Type
 |[]=>Unit
 |c::cs=>T S c×HL S cs
def HT(S:Nat->Type):List Co->Type
 |[]=>Unit
 |[c]=>T S c
 |c::d::cs=>T S c×HT S (d::cs)
variable (S:Nat->Type)
inductive CV where
 |int (k:IntKind) (x:Int)
 |u8 (x:UInt8)
 |bo (b:Bool) (p:Prop) (d:Decidable p) (h:b=true↔p)
 |tt (b:Bool)
 |str (l:List UInt8)
 |sl (c:Co) (l:List (T S c))
 |slF (c:Co) (l:List (T S c))
 |rw(o:Nat) (c:Co) (l:List (T S c))
 |aw (o:Nat)
 |fP
 |a8 (n:Nat) (f:Nat->UInt8)
 |ai (n:Nat) (k:IntKind) (f:Nat->Int)
 |ptr (o off:Nat)
 |mb
 |el (c:Co) (x:T S c) (off:Nat)
 |Se (o:Nat) (v:Nat) (c:Co) (x:T S c) (j:Int) (off:Nat)
 |XT (o off n:Nat) (i:Int)
 |px (o off n:Nat) (i j:Int)
 |fn (f:Fn) (first caps:List CV)
 |ag (xs:List CV)
 |ed
 |B6
 |GP
 |yl (o:Nat)
 |na (e neg:Bool)
 |rz (o:Nat) (c:Co) (n:Int)
 |pt (o:Nat) (c:Co) (off n:Int)
 |mp (o:Nat)
 |stp (o q:Nat)
 |itp (q:Nat)
 deriving Inhabited
inductive AV where
 |one (v:CV S)
 |agg (vs:List (CV S))
 |mj (vs:List AV)
 deriving Inhabited
def AV.uI:AV S:=.mj []
inductive W4 where
 |normal
 |ret
 |exit (n:Nat)
inductive LS where
 |ready
 |busy
 |done (e:W4)
def LS.same:LS->LS->Bool
 |.ready,.ready=>true
 |.busy,.busy=>true
 |.done .normal,.done .normal=>true
 |.done .ret,.done .ret=>true
 |.done (.exit n),.done (.exit k)=>Nat.beq n k
 |_,_=>false
inductive AO where
 |box (T:TypeId) (cs:List (CV S))
 |row (e:TypeId) (c:Co)
 |arr (e:TypeId) (c:Co) (full:Bool) (l:List (T S c))
 |loop (r:Nat) (st:LS) (tm:List (Nat×Nat×AV S))
 |map (t:TypeId) (kc vc:Co) (l:List (T S kc×T S vc)) (hole:Option (T S kc×Nat))
 |fo (t et:TypeId) (kc c:Co) (l:List (T S kc×List (T S c))) (hole:Option (T S kc))
 |MU (t:TypeId) (kc:Co) (l:List (T S kc×CV S))
 |sL (t:TypeId) (kc vc:Co) (l:List (T S kc×T S vc)) (hole:Option (T S kc×Nat)) (q:Nat)
 |Jf (kc:Co) (o:Nat) (st:Option (Option (T S kc)))
 deriving Inhabited
structure AS where
 tm:List (Nat×Nat×AV S)
 ob:List (Nat×Nat×AO S)
 ct:Nat
 fb:Nat
 rt:List Nat
structure SD(σ:Type) where
 fs:List Co
 to:σ->HL S fs
 of:HL S fs->σ
variable {S}
def look{α:Type}(t:Nat):List (Nat×α)->Option α
 |[]=>none
 |(u,x)::l=>match Nat.beq u t with|true=>some x|false=>look t l
def drop1{α:Type}(t:Nat):List (Nat×α)->List (Nat×α)
 |[]=>[]
 |(u,x)::l=>match Nat.beq u t with|true=>l|false=>(u,x)::drop1 t l
inductive TD where
 |int (k:IntKind)
 |bool
 |str
 |ptr (e:TypeId)
 |slice (e:TypeId)
 |array (n:Nat) (e:TypeId)
 |struct (fs:List (TypeId×Nat×Nat))
 |func
 |iface
 |map (k v:TypeId)
 deriving Inhabited
variable (S)
structure TI where
 d:TD
 size:Nat
 bytes:Nat
 zero:List (CV S)
 co:Co:=.bo
 eq:Bool:=false
 deriving Inhabited
variable {S}
def mu:TD->Bool
 |.struct _=>true
 |.array _ _=>true
 |_=>false
def CV.n:CV S->Nat
 |.a8 n _=>n
 |.ai n _ _=>n
 |_=>1
def zi:AV S->Option (List (CV S))
 |.one v=>some [v]
 |.agg vs=>some vs
 |.mj _=>none
def Ah:Nat->List (CV S)->Option (List (CV S))
 |0,_=>some []
 |_+1,[]=>none
 |n+1,v::vs=>match Nat.ble v.n (n+1)with|true=>(Ah (n+1-v.n) vs).map (v:: ·)|false=>none
def cutAt:Nat->List (CV S)->Option (List (CV S))
 |0,vs=>some vs
 |_+1,[]=>none
 |o+1,v::vs=>match Nat.ble v.n (o+1)with|true=>cutAt (o+1-v.n) vs|false=>none
def Cp:Nat->List (CV S)->Option (CV S)
 |_,[]=>none
 |o,v::vs=>match Nat.ble v.n o with
  |true=>Cp (o-v.n) vs
  |false=>match v with
   |.a8 _ f=>some (.u8 (f o))
   |.ai _ k f=>some (.int k (f o))
   |v=>some v
def adO(o n:Nat)(xs vs:List (CV S)):Option (List (CV S)):=
 (Ah o vs).bind fun a=>(cutAt (o+n) vs).map fun b=>a++(xs++b)
def YX:Nat->CV S->List (CV S)->Option (List (CV S))
 |_,_,[]=>none
 |o,x,v::vs=>match Nat.ble v.n o with
  |true=>(YX (o-v.n) x vs).map (v:: ·)
  |false=>match v,x with
   |.a8 n f,.u8 y=>some (.a8 n (bV f o y)::vs)
   |.ai n k f,.int k' y=>match decEq k' k with|isTrue _=>some (.ai n k (bV f o y)::vs)|isFalse _=>none
   |.a8 _ _,_=>none
   |.ai _ _ _,_=>none
   |_,x=>some (x::vs)
def TH(vs:List (CV S)):Nat:=(vs.map CV.n).sum
variable (S) in
abbrev Tb:=(i:Nat)->SD S (S i)
variable (tb:Tb S)
def toCV:(c:Co)->T S c->CV S
 |.int k,x=>.int k x
 |.u8,x=>.u8 x
 |.bo,(b:Bool)=>.bo b (b=true) inferInstance Iff.rfl
 |.str,l=>.str l
 |.sl c,l=>.sl c l
 |.st _,_=>.GP
 |.a8 n,f=>.a8 n f
 |.ai n k,f=>.ai n k f
 |.mp _ _,_=>.GP
def toCVs:(cs:List Co)->HL S cs->List (CV S)
 |[],_=>[]
 |c::cs,h=>toCV c h.1::toCVs cs h.2
def WY:(c:Co)->T S c->List (CV S)
 |.st i,x=>toCVs (tb i).fs ((tb i).to x)
 |c,x=>[toCV c x]
def QN:(cs:List Co)->HL S cs->HL S cs->Bool
 |[],_,_=>true
 |.int _::cs,a,b=>dn a.1 b.1&&QN cs a.2 b.2
 |_::_,_,_=>false
def qw:(c:Co)->T S c->T S c->Bool
 |.int _=>dn
 |.str=>ZD
 |.st i=>fun x y=>QN (tb i).fs ((tb i).to x) ((tb i).to y)
 |_=>fun _ _=>false
def GK:Co->Bool
 |.int .u8=>false
 |.int _=>true
 |.str=>true
 |.st i=>(tb i).fs.all fun c=>match c with| .int .u8=>false| .int _=>true|_=>false
 |_=>false
def Vi:Co->Bool
 |.int _=>true
 |.u8=>true
 |.bo=>true
 |.str=>true
 |_=>false
def qj{a b c d:Co}(h:a=c)(k:b=d)(l:List (T S a×T S b)):List (T S c×T S d):=h▸k▸l
def Jd{a b c d:Co}(h:a=c)(k:b=d)(l:List (T S a×List (T S b))):List (T S c×List (T S d)):=h▸k▸l
def xz{c d:Co}(h:c=d)(l:List (T S c)):List (T S d):=h▸l
def Wu:(c:Co)->CV S->Option (T S c)
 |.int k,.int k' x=>match decEq k k' with|isTrue _=>some x|isFalse _=>none
 |.u8,.u8 x=>some x
 |.bo,.bo b _ _ _=>some b
 |.bo,.tt b=>some b
 |.str,.str l=>some l
 |.sl c,.sl d l=>match decEq d c with|isTrue h=>some (xz h l)|isFalse _=>none
 |.sl c,.slF d l=>match decEq d c with|isTrue h=>some (xz h l)|isFalse _=>none
 |.sl c,.rw _ d l=>match decEq d c with|isTrue h=>some (xz h l)|isFalse _=>none
 |.sl _,.fP=>some []
 |.a8 n,.a8 n' f=>match Nat.beq n n'&&Nat.ble 1 n with|true=>some f|false=>none
 |.ai n k,.ai n' k' f=>match Nat.beq n n'&&Nat.ble 1 n,decEq k k' with|true,isTrue _=>some f|_,_=>none
 |_,_=>none
def NY:(cs:List Co)->List (CV S)->Option (HL S cs×List (CV S))
 |[],vs=>some ((),vs)
 |_::_,[]=>none
 |c::cs,v::vs=>(Wu c v).bind fun x=>(NY cs vs).map fun p=>((x,p.1),p.2)
def pk:(c:Co)->List (CV S)->Option (T S c×List (CV S))
 |.st i,vs=>(NY (tb i).fs vs).map fun p=>((tb i).of p.1,p.2)
 |_,[]=>none
 |c,v::vs=>(Wu c v).map fun x=>(x,vs)
def Kj(c:Co)(vs:List (CV S)):Option (T S c):=(pk tb c vs).bind fun p=>match p.2 with| []=>some p.1|_::_=>none
def slv(c:Co):CV S->Option (List (T S c)):=Wu (.sl c)
def num:CV S->Option (IntKind×Int)
 |.int k x=>match k with| .u8=>none|k=>some (k,x)
 |.u8 x=>some (.u8,(x.toNat:Int))
 |_=>none
def Sf(k:IntKind)(x:Int):CV S:=match k with| .u8=>.u8 (G.u8 x)|k=>.int k x
def wrI(k:IntKind)(x:Int):CV S:=match k with| .u8=>.u8 (G.u8 x)|k=>.int k (k.wrap x)
def boP(p:Prop)[d:Decidable p]:CV S:=.bo (decide p) p d (decide_eq_true_iff)
def aaj{α:Type}[DecidableEq α][BEq α][LawfulBEq α](a b:α):CV S:=.bo (a == b) (a=b) inferInstance beq_iff_eq
def aal{α:Type}[DecidableEq α][BEq α][LawfulBEq α](a b:α):CV S:=.bo (a !=b) (a≠b) inferInstance bne_iff_ne
def boB(b:Bool):CV S:=.bo b (b=true) inferInstance Iff.rfl
def boN(b:Bool):CV S:=.bo (!b) (b=false) inferInstance (by cases b<;>simp)
def bit:CV S->Option Bool
 |.bo b _ _ _=>some b
 |.tt b=>some b
 |_=>none
def isNil:CV S->Option Bool
 |.mb=>some true
 |.ed=>some true
 |.B6=>some true
 |.GP=>some true
 |.fP=>some true
 |.ptr _ _=>some false
 |.fn _ _ _=>some false
 |.rw _ _ (_::_)=>some false
 |_=>none
def Gw:List (CV S)->List (CV S)->Option (PSigma fun p:Prop=>Decidable p)
 |[.int _ x],[.int _ y]=>some ⟨x=y,inferInstance⟩
 |[.u8 x],[.u8 y]=>some ⟨(x.toNat:Int)=(y.toNat:Int),inferInstance⟩
 |.int _ x::v::vs,.int _ y::w::ws=>(Gw (v::vs) (w::ws)).map fun p=>⟨x=y/\p.1,@instDecidableAnd _ _ inferInstance p.2⟩
 |.u8 x::v::vs,.u8 y::w::ws=>(Gw (v::vs) (w::ws)).map fun p=>⟨(x.toNat:Int)=(y.toNat:Int)/\p.1,@instDecidableAnd _ _ inferInstance p.2⟩
 |[v],[w]=>(bit v).bind fun x=>(bit w).map fun y=>⟨x=y,inferInstance⟩
 |v::v'::vs,w::w'::ws=>(bit v).bind fun x=>(bit w).bind fun y=>(Gw (v'::vs) (w'::ws)).map fun p=>⟨x=y/\p.1,@instDecidableAnd _ _ inferInstance p.2⟩
 |_,_=>none
def kindOk:List (CV S)->List (CV S)->Bool
 |[],[]=>true
 |.int k _::z,.int k' _::v=>decide (k=k')&&kindOk z v
 |.u8 _::z,.u8 _::v=>kindOk z v
 |.tt _::z,.bo _ _ _ _::v=>kindOk z v
 |.tt _::z,.tt _::v=>kindOk z v
 |_,_=>false
def Ph:Operand->Bool
 |.const (.int _ n)=>decide (0<n)
 |_=>false
def UI:Operand->Bool
 |.const (.int _ n)=>decide (0<=n)
 |_=>false
section
variable {γ:Type}
def ifB(v:CV S)(k:Bool->Option γ):Option γ:=match v with
 |.tt b=>k b
 |.bo _ p d _=>@ite _ p d (k true) (k false)
 |_=>none
def Wt(op:BinOp)(kv kw:IntKind)(x z:Int)(y:Operand)(k:CV S->Option γ):Option γ:=
 match op with
 |.shl=>(match UI y with|true=>k (Sf kv (qV kv x z))|false=>(m8 (0<=z)).bind fun _=>k (Sf kv (qV kv x z)))
 |.shr=>(match UI y with|true=>k (Sf kv (eR kv x z))|false=>(m8 (0<=z)).bind fun _=>k (Sf kv (eR kv x z)))
 |op=>match decEq kv kw with
  |isFalse _=>none
  |isTrue _=>match op with
   |.lss=>k (boP (x<z))
   |.leq=>k (boP (x<=z))
   |.gtr=>k (boP (x>z))
   |.geq=>k (boP (x≥z))
   |.eql=>k (aaj x z)
   |.neq=>k (aal x z)
   |.add=>k (wrI kv (x+z))
   |.sub=>k (wrI kv (x-z))
   |.mul=>k (wrI kv (x*z))
   |.and=>k (Sf kv (cV kv x z))
   |.or=>k (Sf kv (KQ kv x z))
   |.xor=>k (Sf kv (eY kv x z))
   |.andNot=>k (Sf kv (Uc kv x z))
   |.quo=>(match Ph y with|true=>k (wrI kv (Int.tdiv x z))|false=>(m8 (z≠0)).bind fun _=>k (wrI kv (Int.tdiv x z)))
   |.rem=>match kv with
    |.u8=>none
    |kv=>(match Ph y with|true=>k (.int kv (Int.tmod x z))|false=>(m8 (z≠0)).bind fun _=>k (.int kv (Int.tmod x z)))
   |_=>none
def yx(op:BinOp)(a b:CV S)(k:CV S->Option γ):Option γ:=match op with
 |.eql=>k a
 |.neq=>k b
 |_=>none
def eqK(tt:TypeId->Option (TI S))(op:BinOp)(xT:TypeId)(a b:AV S)(k:CV S->Option γ):Option γ:=
 (tt xT).bind fun ti=>match ti.d,a,b with
 |.str,.one (.str x),.one (.str z)=>yx op (boP (x=z)) (boN (decide (x=z))) k
 |.bool,.one v,.one w=>(bit v).bind fun x=>(bit w).bind fun z=>yx op (aaj x z) (aal x z) k
 |.ptr _,.one .mb,.one .mb=>yx op (.tt true) (.tt false) k
 |.ptr _,.one (.ptr _ _),.one .mb=>yx op (.tt false) (.tt true) k
 |.ptr _,.one .mb,.one (.ptr _ _)=>yx op (.tt false) (.tt true) k
 |.func,.one .ed,.one .ed=>yx op (.tt true) (.tt false) k
 |.func,.one (.fn _ _ _),.one .ed=>yx op (.tt false) (.tt true) k
 |.slice _,.one .fP,.one .fP=>yx op (.tt true) (.tt false) k
 |.slice _,.one (.sl _ l),.one .fP=>yx op (.na l.isEmpty false) (.na l.isEmpty true) k
 |.slice _,.one (.rw _ _ (_::_)),.one .fP=>yx op (.tt false) (.tt true) k
 |.array n e,.agg [.a8 n1 f],.agg [.a8 n2 g]=>(tt e).bind fun ei=>match ei.d,Nat.beq n 32&&Nat.beq n1 32&&Nat.beq n2 32&&ti.eq with
  |.int .u8,true=>yx op (boB (jx f g)) (boN (jx f g)) k
  |_,_=>none
 |.struct _,.agg vs,.agg ws=>match ti.eq&&kindOk ti.zero vs&&kindOk ti.zero ws with
  |true=>(Gw vs ws).bind fun p=>yx op (@boP _ p.1 p.2) (boN (@decide p.1 p.2)) k
  |false=>none
 |_,_,_=>none
def VG(tt:TypeId->Option (TI S))(op:BinOp)(xT:TypeId)(y:Operand)(a b:AV S)(k:CV S->Option γ):Option γ:=
 match a,b with
 |.one v,.one w=>
  match num v,num w with
  |some (kv,x),some (kw,z)=>Wt op kv kw x z y k
  |_,_=>eqK tt op xT a b k
 |_,_=>eqK tt op xT a b k
end
inductive CS where
 |cX (c:Co)
 |rw(o:Nat) (c:Co)
 |aw (o:Nat)
 |ptr (o off:Nat)
 |mb
 |ed
 |fn (f:FuncId) (first caps:List CS)
 |tt (b:Bool)
 |fP
 |yl (o:Nat)
 |oL (o:Nat)
 deriving Inhabited
inductive PS where
 |one (s:CS)
 |agg (l:List CS)
 |mj (l:List PS)
 deriving Inhabited
inductive OS where
 |box (T:TypeId) (l:List CS)
 |row (e:TypeId) (c:Co)
 |arr (e:TypeId) (c:Co) (full:Bool)
 |loop (r:Nat) (st:LS) (Xa:List (Nat×PS))
 |map (t:TypeId) (kc vc:Co)
 |fo (t et:TypeId) (kc c:Co)
 |sL (t:TypeId) (kc vc:Co) (q:Nat)
 |Jf (kc:Co) (o:Nat)
 deriving Inhabited
variable (S) in
abbrev qh:=(c:Co)×T S c
def Hu:CV S->AV S
 |.ag xs=>.agg xs
 |v=>.one v
def nag:CV S->Bool
 |.ag _=>false
 |_=>true
def abj(v:CV S):Bool:=Nat.beq v.n 1
mutual
def CS.fill(ids:Nat->Nat):CS->List (qh S)->Option (List (CV S)×List (qh S))
 |.cX c,⟨c',x⟩::ds=>match decEq c' c with|isTrue h=>some (WY tb c (h▸x),ds)|isFalse _=>none
 |.rw o c,⟨c',x⟩::ds=>match decEq c' (.sl c)with|isTrue h=>some ([.rw (ids o) c (show List (T S c) from(h▸x:T S (.sl c)))],ds)|isFalse _=>none
 |.cX _,[]=>none
 |.rw _ _,[]=>none
 |.aw o,ds=>some ([.aw (ids o)],ds)
 |.ptr o off,ds=>some ([.ptr (ids o) off],ds)
 |.mb,ds=>some ([.mb],ds)
 |.ed,ds=>some ([.ed],ds)
 |.tt b,ds=>some ([.tt b],ds)
 |.fP,ds=>some ([.fP],ds)
 |.yl o,ds=>some ([.yl (ids o)],ds)
 |.oL o,ds=>some ([.mp (ids o)],ds)
 |.fn f xs ys,ds=>(CS.kV ids xs ds).bind fun p=>(CS.kV ids ys p.2).bind fun q=>match p.1.all abj&&q.1.all abj with|true=>some ([.fn (.func f) p.1 q.1],q.2)|false=>none
def CS.kV(ids:Nat->Nat):List CS->List (qh S)->Option (List (CV S)×List (qh S))
 |[],ds=>some ([],ds)
 |s::l,ds=>(CS.fill ids s ds).bind fun p=>(CS.kV ids l p.2).map fun q=>(p.1++q.1,q.2)
end
mutual
def PS.fill(ids:Nat->Nat):PS->List (qh S)->Option (AV S×List (qh S))
 |.one s,ds=>(CS.fill tb ids s ds).bind fun p=>match p.1 with| [v]=>some (.one v,p.2)|_=>none
 |.agg l,ds=>(CS.kV tb ids l ds).map fun p=>(.agg p.1,p.2)
 |.mj l,ds=>(PS.kV ids l ds).map fun p=>(.mj p.1,p.2)
def PS.kV(ids:Nat->Nat):List PS->List (qh S)->Option (List (AV S)×List (qh S))
 |[],ds=>some ([],ds)
 |s::l,ds=>(PS.fill ids s ds).bind fun p=>(PS.kV ids l p.2).map fun q=>(p.1::q.1,q.2)
end
def Dt(ids:Nat->Nat)(cL:Nat):List (Nat×PS)->List (qh S)->Option (List (Nat×Nat×AV S)×List (qh S))
 |[],ds=>some ([],ds)
 |(t,s)::l,ds=>(PS.fill tb ids s ds).bind fun p=>(Dt ids (cL+1) l p.2).map fun q=>((t,cL,p.1)::q.1,q.2)
def OS.fill(ids:Nat->Nat):OS->List (qh S)->Option (AO S×List (qh S))
 |.box T l,ds=>(CS.kV tb ids l ds).map fun p=>(.box T p.1,p.2)
 |.row e c,ds=>some (.row e c,ds)
 |.arr e c full,⟨c',x⟩::ds=>match decEq c' (.sl c)with|isTrue h=>some (.arr e c full (show List (T S c) from(h▸x:T S (.sl c))),ds)|isFalse _=>none
 |.arr _ _ _,[]=>none
 |.loop r st Xa,ds=>(Dt tb ids 300 Xa ds).map fun p=>(.loop r st p.1,p.2)
 |.map t kc vc,⟨c',x⟩::ds=>match decEq c' (.mp kc vc)with|isTrue h=>some (.map t kc vc (show List (T S kc×T S vc) from(h▸x:T S (.mp kc vc))) none,ds)|isFalse _=>none
 |.map _ _ _,[]=>none
 |.fo t et kc c,⟨c',x⟩::ds=>match decEq c' (.mp kc (.sl c))with|isTrue h=>some (.fo t et kc c (show List (T S kc×List (T S c)) from(h▸x:T S (.mp kc (.sl c)))) none,ds)|isFalse _=>none
 |.fo _ _ _ _,[]=>none
 |.sL t kc vc q,⟨c',x⟩::ds=>match decEq c' (.mp kc vc)with|isTrue h=>some (.sL t kc vc (show List (T S kc×T S vc) from(h▸x:T S (.mp kc vc))) none (ids q),ds)|isFalse _=>none
 |.sL _ _ _ _,[]=>none
 |.Jf kc o,ds=>some (.Jf kc (ids o) (some none),ds)
def OS.kV(ids:Nat->Nat):List OS->List (qh S)->Option (List (AO S)×List (qh S))
 |[],ds=>some ([],ds)
 |s::l,ds=>(OS.fill tb ids s ds).bind fun p=>(OS.kV ids l p.2).map fun q=>(p.1::q.1,q.2)
def uni(mp:List (Nat×Nat))(o q:Nat):Option (List (Nat×Nat)):=match look o mp with
 |some r=>match Nat.beq r q with|true=>some mp|false=>none
 |none=>match(mp.any fun p=>Nat.beq p.2 q)||!Nat.ble o 200 with|true=>none|false=>some ((o,q)::mp)
variable (S) in
abbrev Tk:=List (qh S)×List (CV S)×List (Nat×Nat)
mutual
def CS.take(mp:List (Nat×Nat)):CS->List (CV S)->Option (Tk S)
 |.cX c,vs=>(pk tb c vs).map fun p=>([⟨c,p.1⟩],p.2,mp)
 |.rw o c,.rw q d l::vs=>match decEq d c with|isTrue h=>(uni mp o q).map fun mp=>([⟨.sl c,xz h l⟩],vs,mp)|isFalse _=>none
 |.aw o,.aw q::vs=>(uni mp o q).map fun mp=>([],vs,mp)
 |.ptr o off,.ptr q off'::vs=>match Nat.beq off off' with|true=>(uni mp o q).map fun mp=>([],vs,mp)|false=>none
 |.mb,.mb::vs=>some ([],vs,mp)
 |.ed,.ed::vs=>some ([],vs,mp)
 |.tt b,.tt c::vs=>(match b == c with|true=>some ([],vs,mp)|false=>none)
 |.fP,.fP::vs=>some ([],vs,mp)
 |.yl o,.yl q::vs=>(uni mp o q).map fun mp=>([],vs,mp)
 |.oL o,.mp q::vs=>(uni mp o q).map fun mp=>([],vs,mp)
 |.fn f xs ys,.fn (.func g) first caps::vs=>match Nat.beq f g&&(first.all nag&&caps.all nag)with
  |true=>(CS.takes mp xs first).bind fun p=>match p.2.1 with
   |[]=>(CS.takes p.2.2 ys caps).bind fun q=>match q.2.1 with| []=>some (p.1++q.1,vs,q.2.2)|_::_=>none
   |_::_=>none
  |false=>none
 |_,_=>none
def CS.takes(mp:List (Nat×Nat)):List CS->List (CV S)->Option (Tk S)
 |[],vs=>some ([],vs,mp)
 |s::l,vs=>(CS.take mp s vs).bind fun p=>(CS.takes p.2.2 l p.2.1).map fun q=>(p.1++q.1,q.2.1,q.2.2)
end
mutual
def PS.take(mp:List (Nat×Nat)):PS->AV S->Option (List (qh S)×List (Nat×Nat))
 |.one s,.one v=>(CS.take tb mp s [v]).bind fun p=>match p.2.1 with| []=>some (p.1,p.2.2)|_::_=>none
 |.agg l,.agg vs=>(CS.takes tb mp l vs).bind fun p=>match p.2.1 with| []=>some (p.1,p.2.2)|_::_=>none
 |.mj l,.mj vs=>PS.takes mp l vs
 |_,_=>none
def PS.takes(mp:List (Nat×Nat)):List PS->List (AV S)->Option (List (qh S)×List (Nat×Nat))
 |[],[]=>some ([],mp)
 |s::l,v::vs=>(PS.take mp s v).bind fun p=>(PS.takes p.2 l vs).map fun q=>(p.1++q.1,q.2)
 |_,_=>none
end
def yc(tm:List (Nat×Nat×AV S))(mp:List (Nat×Nat)):List (Nat×PS)->Option (List (qh S)×List (Nat×Nat))
 |[]=>some ([],mp)
 |(t,s)::l=>(look t tm).bind fun a=>(PS.take tb mp s a.2).bind fun p=>(yc tm p.2 l).map fun r=>(p.1++r.1,r.2)
def OS.take(mp:List (Nat×Nat)):OS->AO S->Option (List (qh S)×List (Nat×Nat))
 |.box T l,.box T' vs=>match Nat.beq T T' with
  |true=>(CS.takes tb mp l vs).bind fun p=>match p.2.1 with| []=>some (p.1,p.2.2)|_::_=>none
  |false=>none
 |.row e c,.row e' c'=>match Nat.beq e e',decEq c c' with|true,isTrue _=>some ([],mp)|_,_=>none
 |.arr e c full,.arr e' c' full' l=>match Nat.beq e e',decEq c' c,!full||full' with|true,isTrue h,true=>some ([⟨.sl c,xz h l⟩],mp)|_,_,_=>none
 |.loop r st Xa,.loop r' st' tm=>match Nat.beq r r'&&LS.same st st' with|true=>yc tb tm mp Xa|false=>none
 |.map t kc vc,.map t' kc' vc' l none=>match Nat.beq t t',decEq kc' kc,decEq vc' vc with|true,isTrue h,isTrue k=>some ([⟨.mp kc vc,qj h k l⟩],mp)|_,_,_=>none
 |.fo t et kc c,.fo t' et' kc' c' l none=>match Nat.beq t t'&&Nat.beq et et',decEq kc' kc,decEq c' c with|true,isTrue h,isTrue k=>some ([⟨.mp kc (.sl c),Jd h k l⟩],mp)|_,_,_=>none
 |.sL t kc vc q,.sL t' kc' vc' l none q'=>match Nat.beq t t',decEq kc' kc,decEq vc' vc with|true,isTrue h,isTrue k=>(uni mp q q').map fun mp=>([⟨.mp kc vc,qj h k l⟩],mp)|_,_,_=>none
 |.Jf kc o,.Jf kc' o' _=>match decEq kc' kc with|isTrue _=>(uni mp o o').map fun mp=>([],mp)|isFalse _=>none
 |_,_=>none
def OS.takes(ob:List (Nat×Nat×AO S))(mp:List (Nat×Nat)):Nat->List OS->Option (List (qh S)×List (Nat×Nat))
 |_,[]=>some ([],mp)
 |o,s::l=>(look o mp).bind fun q=>(look q ob).bind fun a=>(OS.take tb mp s a.2).bind fun p=>(OS.takes ob p.2 (o+1) l).map fun r=>(p.1++r.1,r.2)
def Ai:(ls:List Co)->HT S ls->List (qh S)
 |[],_=>[]
 |[c],x=>[⟨c,x⟩]
 |c::d::cs,x=>⟨c,x.1⟩::Ai (d::cs) x.2
def BT:(ls:List Co)->List (qh S)->Option (HT S ls)
 |[],[]=>some ()
 |[c],[⟨c',x⟩]=>match decEq c' c with|isTrue h=>some (h▸x)|isFalse _=>none
 |c::d::cs,⟨c',x⟩::ds=>match decEq c' c with|isTrue h=>(BT (d::cs) ds).map fun y=>(h▸x,y)|isFalse _=>none
 |_,_=>none
def N3{α:Type}(l:List α):List Nat->Option (List α)
 |[]=>some []
 |i::is=>(l[i]?).bind fun x=>(N3 l is).map (x:: ·)
def xB(pm:List Nat)(ds:List (qh S)):Option (List (qh S)):=match pm with
 |[]=>some ds
 |_::_=>match Nat.beq ds.length pm.length with|true=>N3 ds pm|false=>none
def VY:List Nat->List Nat->Bool
 |[],[]=>true
 |x::l,y::l'=>Nat.beq x y&&VY l l'
 |_,_=>false
def Rq(pm bk:List Nat):Bool:=match pm,bk with
 |[],[]=>true
 |_::_,_::_=>Nat.beq pm.length bk.length&&(match N3 pm bk with|some l=>VY l (List.range bk.length)|none=>false)
 |_,_=>false
inductive PrK where
 |own (e:TypeId) (c:Co)
 |arr (e:TypeId) (c:Co)
 |frz
structure JA where
 Xa:List (Nat×PS):=[]
 eW:List OS:=[]
 ls:List Co:=[]
 pm:List Nat:=[]
 bk:List Nat:=[]
 fx:List (Nat×Nat):=[]
 gone:List Nat:=[]
 kill:List Nat:=[]
 pre:List (Nat×Nat×PrK):=[]
 early:Bool:=false
 Z0:Rq pm bk=true:=by rfl
 J4:(Nat.ble Xa.length 190&&Nat.ble eW.length 190)=true:=by rfl
def has(t:Nat):List Nat->Bool
 |[]=>false
 |u::l=>match Nat.beq u t with|true=>true|false=>has t l
def Bi(J:JA):List (Nat×Nat×AV S)->List (Nat×Nat×AV S)
 |[]=>[]
 |(t,x)::l=>match has t J.kill||J.Xa.any fun p=>Nat.beq p.1 t with|true=>Bi J l|false=>(t,x)::Bi J l
mutual
def CV.ids:CV S->List Nat
 |.rw o _ _=>[o]
 |.aw o=>[o]
 |.ptr o _=>[o]
 |.Se o _ _ _ _ _=>[o]
 |.XT o _ _ _=>[o]
 |.px o _ _ _ _=>[o]
 |.yl o=>[o]
 |.mp o=>[o]
 |.stp o _=>[o]
 |.itp o=>[o]
 |.rz o _ _=>[o]
 |.pt o _ _ _=>[o]
 |.fn _ xs ys=>CV.Pc xs++CV.Pc ys
 |.ag xs=>CV.Pc xs
 |_=>[]
def CV.Pc:List (CV S)->List Nat
 |[]=>[]
 |v::vs=>CV.ids v++CV.Pc vs
end
mutual
def AV.ids:AV S->List Nat
 |.one v=>v.ids
 |.agg vs=>CV.Pc vs
 |.mj vs=>AV.Pc vs
def AV.Pc:List (AV S)->List Nat
 |[]=>[]
 |v::vs=>AV.ids v++AV.Pc vs
end
def AO.ids:AO S->List Nat
 |.box _ vs=>CV.Pc vs
 |.sL _ _ _ _ _ q=>[q]
 |.Jf _ o _=>[o]
 |_=>[]
def Sv(xs ys:List Nat):List Nat:=xs.foldl (fun l x=>match has x l with|true=>l|false=>x::l) ys
def Y5(ob:List (Nat×Nat×AO S)):Nat->List Nat->List Nat
 |0,l=>l
 |n+1,l=>Y5 ob n (l.foldl (fun r x=>match look x ob with|some a=>Sv a.2.ids r|none=>r) l)
def LB(r:List Nat):List (Nat×Nat×AO S)->List (Nat×Nat×AO S)
 |[]=>[]
 |(q,x)::l=>match has q r with|true=>(q,x)::LB r l|false=>LB r l
def gR(rm:List Nat):List (Nat×Nat×AO S)->List (Nat×Nat×AO S)
 |[]=>[]
 |(q,x)::l=>match has q rm with|true=>gR rm l|false=>(q,x)::gR rm l
def GJ(J:JA)(σ:AS S):List (Nat×Nat×AO S):=
 gR ((J.fx.filter fun r=>Nat.ble (r.1+1) J.eW.length).map (·.2)++J.gone) (LB (Y5 σ.ob 4 (Sv σ.rt ((Bi J σ.tm).foldl (fun r x=>Sv x.2.2.ids r) []))) σ.ob)
def PQ(tm:List (Nat×Nat×AV S)):List (Nat×Nat×AV S)->Bool
 |[]=>true
 |(t,x)::l=>(match look t tm with|some y=>Nat.beq x.1 y.1|none=>false)&&PQ tm l
def PN(ob:List (Nat×Nat×AO S)):List (Nat×Nat×AO S)->Bool
 |[]=>true
 |(t,x)::l=>(match look t ob with|some y=>Nat.beq x.1 y.1|none=>false)&&PN ob l
def Iu(mp:List (Nat×Nat)):Nat->Nat->List Nat
 |_,0=>[]
 |o,n+1=>match look o mp with|some q=>q::Iu mp (o+1) n|none=>Iu mp (o+1) n
def nI:List Nat->Bool
 |[]=>true
 |x::l=>match has x l with|true=>false|false=>nI l
def place(σ:AS S)(t i:Nat):Option (CV S):=match look t σ.tm with
 |some (_,.one v)=>(match i with
  |0=>some v
  |i+1=>match v with| .ptr o _=>(match look o σ.ob with|some (_,.box _ cs)=>cs[i]?|_=>none)|_=>none)
 |some (_,.agg vs)=>(match i with|0=>none|i+1=>vs[i]?)
 |_=>none
def CW(σ:AS S)(t i:Nat)(w:CV S):AS S:=match look t σ.tm with
 |some (cL,.one v)=>(match i with
  |0=>{σ with tm:=(t,cL,.one w)::drop1 t σ.tm,ct:=σ.ct+64}
  |i+1=>match v with| .ptr o _=>(match look o σ.ob with|some (_,.box T cs)=>{σ with ob:=(o,σ.ct+32,.box T (cs.set i w))::gR [o] σ.ob,ct:=σ.ct+64}|_=>σ)|_=>σ)
 |some (cL,.agg vs)=>(match i with|0=>σ|i+1=>{σ with tm:=(t,cL,.agg (vs.set i w))::drop1 t σ.tm,ct:=σ.ct+64})
 |_=>σ
def Qh(σ:AS S)(q:Nat)(a:AO S):AS S:={σ with ob:=(q,σ.ct+32,a)::σ.ob,ct:=σ.ct+64}
def YU(σ:AS S)(t i:Nat)(k:PrK):Option (AS S):=match place σ t i,k with
 |some .fP,.own e c=>some (Qh (CW {σ with ct:=σ.ct+64} t i (.rw (σ.ct+1) c [])) (σ.ct+1) (.row e c))
 |some .fP,.arr e c=>some (Qh (CW {σ with ct:=σ.ct+64} t i (.aw (σ.ct+1))) (σ.ct+1) (.arr e c true []))
 |some (.aw o),.frz=>(look o σ.ob).bind fun a=>match a.2 with
  |.arr _ c _ l=>(match place {σ with ob:=gR [o] σ.ob} t i with
   |some (.aw o')=>(match Nat.beq o' o with|true=>some (CW {σ with ob:=gR [o] σ.ob} t i (.sl c l))|false=>none)
   |_=>none)
  |_=>none
 |some _,_=>some σ
 |none,_=>none
def Ir:List (Nat×Nat×PrK)->AS S->Option (AS S)
 |[],σ=>some σ
 |(t,i,k)::l,σ=>(YU σ t i k).bind (Ir l)
def pack(J:JA)(σ0 σ:AS S):Option (HT S J.ls):=(Ir J.pre σ).bind fun σ=>
 match PQ σ.tm (Bi J σ0.tm)&&PN σ.ob (GJ J σ0)&&Nat.beq σ.fb σ0.fb&&(J.fx.all fun r=>(look r.2 σ0.ob).isSome&&Nat.ble r.1 200)&&nI (J.fx.map (·.2))with
 |true=>(yc tb σ.tm J.fx J.Xa).bind fun p=>(OS.takes tb σ.ob p.2 0 J.eW).bind fun q=>
  match nI (Iu q.2 0 J.eW.length++(GJ J σ0).map (·.1))with
  |true=>(xB J.pm (p.1++q.1)).bind (BT J.ls)
  |false=>none
 |false=>none
def Ti(ids:Nat->Nat)(o v:Nat):List (AO S)->List (Nat×Nat×AO S)
 |[]=>[]
 |a::l=>(ids o,v,a)::Ti ids (o+1) (v+1) l
def JA.ids(J:JA)(ct o:Nat):Nat:=match look o J.fx with|some q=>q|none=>ct+o
def Q7(v:Nat):List (AO S)->List (Nat×Nat×AO S)
 |[]=>[]
 |a::l=>(v,v,a)::Q7 (v+1) l
def unpack(J:JA)(σ0:AS S)(z:HT S J.ls):Option (AS S):=
 (xB J.bk (Ai J.ls z)).bind fun ds=>
 (Dt tb (J.ids σ0.ct) (σ0.ct+64) J.Xa ds).bind fun p=>
 (OS.kV tb (J.ids σ0.ct) J.eW p.2).bind fun q=>
 some {σ0 with tm:=p.1++Bi J σ0.tm,ob:=Ti (J.ids σ0.ct) 0 σ0.ct q.1++GJ J σ0,ct:=σ0.ct+256}
inductive KS where
 |kept
 |now (s:OS)
 |gone
structure Out where
 out:PS
 lB:List KS:=[]
 Bl:List Co
 pm':List Nat:=[]
 Sd:List Nat:=[]
 afG:Rq pm' Sd=true:=by rfl
 J4:Nat.ble lB.length 30=true:=by rfl
variable (S) in
def qX:List Out->Type
 |[]=>Empty
 |[o]=>HT S o.Bl
 |o::p::os=>HT S o.Bl⊕qX (p::os)
def aes{γ:Type}(k:(o:Out)->HT S o.Bl->Option γ):(os:List Out)->qX S os->Option γ
 |[],_=>none
 |[o],y=>k o y
 |o::p::os,y=>@Sum.elim (HT S o.Bl) (qX S (p::os)) (Option γ) (k o) (aes k (p::os)) y
def aac{γ:Type}(os:List Out)(y:qX S os)(k:(o:Out)->HT S o.Bl->Option γ):Option γ:=aes k os y
def KF:(os:List Out)->qX S os->((o:Out)->HT S o.Bl->Prop)->Prop
 |[],_,_=>False
 |[o],y,p=>p o y
 |o::_::_,Sum.inl z,q=>q o z
 |_::p::os,Sum.inr z,q=>KF (p::os) z q
variable (S) in
structure cU where
 f:FuncId
 ins:List PS
 eW:List OS:=[]
 ls:List Co
 pm:List Nat:=[]
 bk:List Nat:=[]
 outs:List Out
 Z0:Rq pm bk=true:=by rfl
 J4:(Nat.ble eW.length 30&&outs.all fun o=>Nat.ble eW.length o.lB.length)=true:=by rfl
 pJ:HT S ls->Option (qX S outs)
variable (S) in
structure NC where
 f:FuncId
 ins:List PS
 eW:List OS:=[]
 ls:List Co
 pm:List Nat:=[]
 bk:List Nat:=[]
 out:Out
 Z0:Rq pm bk=true:=by rfl
 J4:(Nat.ble eW.length 30&&Nat.ble eW.length out.lB.length)=true:=by rfl
 JP:(γ:Type)->(HT S out.Bl->Option γ)->HT S ls->Option γ
def NC.ctr(c:NC S):cU S:={f:=c.f,ins:=c.ins,eW:=c.eW,ls:=c.ls,pm:=c.pm,bk:=c.bk,outs:=[c.out],Z0:=c.Z0,J4:=(by have h:=c.J4;simp only[List.all_cons,List.all_nil,Bool.and_true];exact h),pJ:=fun _=>none}
variable (S) in
structure sT where
 v:AV S
 rd:List Nat:=[]
 rm:List Nat:=[]
 add:List (Nat×AO S):=[]
def val(v:CV S):sT S:={v:=.one v}
def OS.outs(ids:Nat->Nat):Nat->List KS->List (qh S)->Option (List (Nat×AO S))
 |_,[],[]=>some []
 |_,[],_::_=>none
 |o,.now s::l,ds=>(OS.fill tb ids s ds).bind fun p=>(OS.outs ids (o+1) l p.2).map fun q=>(ids o,p.1)::q
 |o,_::l,ds=>OS.outs ids (o+1) l ds
def zg(mp:List (Nat×Nat))(ct:Nat)(o:Nat):Nat:=match look o mp with|some q=>q|none=>ct+1+o
def KS.isK:KS->Bool
 |.kept=>true
 |_=>false
def lH(mp:List (Nat×Nat))(k:Bool):Nat->List KS->List Nat
 |_,[]=>[]
 |o,s::l=>match look o mp with
  |some q=>match s.isK == k with|true=>q::lH mp k (o+1) l|false=>lH mp k (o+1) l
  |none=>lH mp k (o+1) l
variable (S) in
structure FA where
 lW:List TypeId:=[]
 lits:List TypeId:=[]
 parts:List TypeId:=[]
 takes:List TypeId:=[]
 pre:List (Nat×Nat×PrK):=[]
 fn:Nat:=0
 rd:Bool:=false
 nd:List (NC S):=[]
 deriving Inhabited
def Z3(r:Nat):Nat:=1000000+r
def aap(b:Bool):Option Unit:=match b with|true=>some ()|false=>none
section
variable {γ:Type}(tt:TypeId->Option (TI S))(Φ:List (cU S))(fa:FA S)
def zh(f:FuncId)(args:List (AV S))(ob:List (Nat×Nat×AO S))(ct:Nat)(k:sT S->Option γ):List (cU S)->Option γ
 |[]=>none
 |c::cs=>match Nat.beq c.f f with
  |false=>zh f args ob ct k cs
  |true=>match(PS.takes tb [] c.ins args).bind fun p=>(OS.takes tb ob p.2 0 c.eW).bind fun q=>(xB c.pm (p.1++q.1)).bind fun ds=>(BT c.ls ds).map fun x=>(x,q.2)with
   |none=>zh f args ob ct k cs
   |some (x,mp)=>(c.pJ x).bind fun y=>aac c.outs y fun o z=>
    match(aap (mp.all fun p=>Nat.ble (p.1+1) c.eW.length)).bind fun _=>(xB o.Sd (Ai o.Bl z)).bind fun ds=>(PS.fill tb (zg mp ct) o.out ds).bind fun p=>(OS.outs tb (zg mp ct) 0 o.lB p.2).map fun l=>(p.1,l)with
    |some (v,l)=>k {v:=v,rd:=lH mp true 0 o.lB,rm:=lH mp false 0 o.lB,add:=l}
    |none=>none
def vZ(f:FuncId)(args:List (AV S))(ob:List (Nat×Nat×AO S))(ct:Nat)(k:sT S->Option γ):List (NC S)->Option γ
 |[]=>none
 |c::cs=>match Nat.beq c.f f with
  |false=>vZ f args ob ct k cs
  |true=>match(PS.takes tb [] c.ins args).bind fun p=>(OS.takes tb ob p.2 0 c.eW).bind fun q=>(xB c.pm (p.1++q.1)).bind fun ds=>(BT c.ls ds).map fun x=>(x,q.2)with
   |none=>vZ f args ob ct k cs
   |some (x,mp)=>(aap ((mp.all fun p=>Nat.ble (p.1+1) c.eW.length)&&nI (lH mp true 0 c.out.lB++lH mp false 0 c.out.lB))).bind fun _=>c.JP γ (fun z=>
    match(xB c.out.Sd (Ai c.out.Bl z)).bind fun ds=>(PS.fill tb (zg mp ct) c.out.out ds).bind fun p=>(OS.outs tb (zg mp ct) 0 c.out.lB p.2).map fun l=>(p.1,l)with
    |some (v,l)=>k {v:=v,rd:=lH mp true 0 c.out.lB,rm:=lH mp false 0 c.out.lB,add:=l}
    |none=>none) x
def aeU(o:Oper)(xs:List (AV S)):Option (FuncId×List (AV S)):=match o.op with
 |.call c=>(match c.callee,xs with
  |.value _,.one (.fn (.func f) first caps)::args=>(match(fa.nd.any fun c=>Nat.beq c.f f)&&Nat.ble f 999999 with|true=>some (f,first.map Hu++args++caps.map Hu)|false=>none)
  |_,_=>none)
 |_=>none
def aa7(sq:Bool)(o:Oper)(xs:List (AV S)):Option (FuncId×List (AV S)):=match sq with
 |true=>aeU fa o xs
 |false=>none
def oV(t:TypeId):Option (TypeId×Co):=(tt t).bind fun i=>match i.d,i.co with| .slice e,.sl c=>some (e,c)|_,_=>none
def DA(i:TI S)(vs:Option (List (CV S)))(one:Option (CV S))(rd:List Nat)(k:sT S->Option γ):Option γ:=match mu i.d with
 |true=>vs.bind fun vs=>k {v:=.agg vs,rd:=rd}
 |false=>one.bind fun v=>k {v:=.one v,rd:=rd}
def NM(t:TypeId)(v:CV S)(ob:List (Nat×Nat×AO S))(k:sT S->Option γ):Option γ:=
 (tt t).bind fun i=>match v with
 |.ptr o off=>(look o ob).bind fun a=>match a.2 with
  |.box _ cs=>DA i ((cutAt off cs).bind (Ah i.size)) (Cp off cs) [o] k
  |_=>none
 |.el c x off=>DA i ((cutAt off (WY tb c x)).bind (Ah i.size)) (Cp off (WY tb c x)) [] k
 |.Se o v c x _ off=>(look o ob).bind fun a=>match Nat.beq a.1 v with
  |true=>DA i ((cutAt off (WY tb c x)).bind (Ah i.size)) (Cp off (WY tb c x)) [o] k
  |false=>none
 |.XT o off n j=>(look o ob).bind fun a=>match a.2,mu i.d with
  |.box _ cs,false=>(cutAt off cs).bind fun cs=>match cs with
   |.a8 n' f::_=>match Nat.beq n n' with|true=>k {v:=.one (.u8 (cw f j)),rd:=[o]}|false=>none
   |.ai n' kk f::_=>match Nat.beq n n' with|true=>k {v:=.one (.int kk (cw f j)),rd:=[o]}|false=>none
   |_=>none
  |_,_=>none
 |_=>none
def Fs:Nat->CV S->List (CV S)->Option (List (CV S))
 |_,_,[]=>none
 |0,x,_::vs=>some (x::vs)
 |o+1,x,v::vs=>match Nat.ble v.n (o+1)with|true=>(Fs (o+1-v.n) x vs).map (v:: ·)|false=>none
def YZ(o n:Nat)(xs vs:List (CV S)):Option (List (CV S)):=match Nat.beq (TH xs) n with
 |true=>(match xs,Nat.beq n 1 with| [x],true=>YX o x vs|xs,_=>adO o n xs vs)
 |false=>none
def IU(t:TypeId)(p:CV S)(a:AV S)(ob:List (Nat×Nat×AO S))(k:sT S->Option γ):Option γ:=
 (tt t).bind fun i=>(zi a).bind fun xs=>
 match p with
 |.ptr o off=>(look o ob).bind fun b=>match b.2 with
  |.box T cs=>(YZ off i.size xs cs).bind fun cs'=>k {v:=AV.uI S,rm:=[o],add:=[(o,.box T cs')]}
  |_=>none
 |.Se o v c x j off=>(look o ob).bind fun b=>match Nat.beq b.1 v with
  |true=>match b.2 with
   |.arr e c' full l=>(YZ off i.size xs (WY tb c x)).bind fun cs'=>(Kj tb c' cs').bind fun u=>
    k {v:=AV.uI S,rm:=[o],add:=[(o,.arr e c' full (l.set j.toNat u))]}
   |_=>none
  |false=>none
 |.XT o off n j=>(look o ob).bind fun b=>match b.2,Nat.beq i.size 1 with
  |.box T cs,true=>(cutAt off cs).bind fun cs1=>(match cs1,xs with
   |.a8 n' f::_,[.u8 y]=>(match Nat.beq n n' with|true=>Fs off (.a8 n' (bV f j y)) cs|false=>none)
   |.ai n' kk f::_,[.int k' y]=>(match Nat.beq n n',decEq k' kk with|true,isTrue _=>Fs off (.ai n' kk (bV f j y)) cs|_,_=>none)
   |_,_=>none).bind fun cs'=>k {v:=AV.uI S,rm:=[o],add:=[(o,.box T cs')]}
  |_,_=>none
 |_=>none
def idxOf(v:AV S):Option Int:=match v with| .one v=>(num v).map (·.2)|_=>none
def Ih(t:TypeId)(y:Operand)(v:CV S)(i:Int)(ob:List (Nat×Nat×AO S))(k:sT S->Option γ):Option γ:=
 match v with
 |.ptr o off=>(tt t).bind fun ti=>match ti.d with
  |.array n e=>(tt e).bind fun ei=>match Nat.beq ei.size 1 with
   |true=>(match y with
    |.const (.int _ j)=>(match decide (0<=j)&&decide (j<n)with|true=>k (val (.ptr o (off+j.toNat)))|false=>none)
    |_=>(m8 (0<=i/\i<n)).bind fun _=>k (val (.XT o off n i)))
   |false=>none
  |_=>none
 |v=>(oV tt t).bind fun ec=>match v with
  |.aw o=>(look o ob).bind fun a=>match a.2 with
   |.arr _ c' _ l=>(match decEq c' ec.2 with
    |isTrue _=>(idx l i).bind fun x=>k {v:=.one (.Se o a.1 c' x i 0),rd:=[o]}
    |isFalse _=>none)
   |_=>none
  |v=>(slv ec.2 v).bind fun l=>(idx l i).bind fun x=>k (val (.el ec.2 x 0))
def Bq:Option Operand->List (AV S)->Option (Option Int×List (AV S))
 |none,vs=>some (none,vs)
 |some _,v::vs=>(idxOf v).map fun i=>(some i,vs)
 |some _,[]=>none
def ade:CV S->Bool
 |.fP=>true
 |_=>false
def adf:Option Int->Option Int->Option Int->Bool
 |none,some _,none=>true
 |_,_,_=>false
def aeC(c:Co)(v:CV S)(l:List (T S c)):CV S:=match v with
 |.rw o d _=>(match decEq d c with|isTrue _=>.rw o c l|isFalse _=>.sl c l)
 |_=>.sl c l
def Fx(t:TypeId)(v:CV S)(lo hi mx:Option Int)(ob:List (Nat×Nat×AO S))(ct:Nat)(k:sT S->Option γ):Option γ:=
 (oV tt t).bind fun ec=>match v with
 |.aw o=>(look o ob).bind fun a=>match a.2,lo,hi,mx with
  |.arr e c _ l,some i,none,none=>(match decEq c ec.2 with
   |isTrue _=>(qS l i).bind fun l'=>k {v:=.one (.aw (ct+1)),rm:=[o],add:=[(ct+1,.arr e c false l')]}
   |isFalse _=>none)
  |.arr e c full l,none,some j,none=>(match decEq c ec.2 with
   |isTrue _=>(wR l j).bind fun l'=>k {v:=.one (.aw (ct+1)),rm:=[o],add:=[(ct+1,.arr e c full l')]}
   |isFalse _=>none)
  |_,_,_,_=>none
 |.rz o c _=>(match lo,hi,mx with
  |none,some j,none=>(match decide (j=0)with|true=>k {v:=.one (.rw o c []),rd:=[o]}|false=>none)
  |_,_,_=>none)
 |v=>match ade v&&adf lo hi mx with
  |true=>(match decide (hi=some 0)with|true=>k (val .fP)|false=>none)
  |false=>(slv ec.2 v).bind fun l=>match lo,hi,mx with
  |some i,none,none=>(qS l i).bind fun l'=>k (val (aeC ec.2 v l'))
  |none,some j,none=>(wR l j).bind fun l'=>k (val (.sl ec.2 l'))
  |some i,some j,none=>(xr l i j).bind fun l'=>k (val (.sl ec.2 l'))
  |none,some j,some m=>(m8 (m=j)).bind fun _=>(wR l j).bind fun l'=>k (val (.slF ec.2 l'))
  |_,_,_=>none
def Dm(t:TypeId)(v w:CV S)(ob:List (Nat×Nat×AO S))(ct:Nat)(k:sT S->Option γ):Option γ:=
 (oV tt t).bind fun ec=>(tt ec.1).bind fun ei=>(slv ec.2 w).bind fun l'=>match v with
  |.fP=>(app ei.bytes [] l').bind fun l2=>match has t fa.lW with
   |true=>k {v:=.one (.aw (ct+1)),add:=[(ct+1,.arr ec.1 ec.2 true l2)]}
   |false=>k {v:=.one (.rw (ct+1) ec.2 l2),add:=[(ct+1,.row ec.1 ec.2)]}
  |.rw o d l=>(look o ob).bind fun a=>match a.2,decEq d ec.2 with
   |.row e' d',isTrue h=>(match Nat.beq e' ec.1,decEq d' ec.2 with
    |true,isTrue _=>(app ei.bytes (xz h l) l').bind fun l2=>k {v:=.one (.rw (ct+1) ec.2 l2),rm:=[o],add:=[(ct+1,.row ec.1 ec.2)]}
    |_,_=>none)
   |_,_=>none
  |.aw o=>(look o ob).bind fun a=>match a.2 with
   |.arr e' d true l=>(match Nat.beq e' ec.1,decEq d ec.2 with
    |true,isTrue h=>(app ei.bytes (xz h l) l').bind fun l2=>k {v:=.one (.aw (ct+1)),rm:=[o],add:=[(ct+1,.arr ec.1 ec.2 true l2)]}
    |_,_=>none)
   |_=>none
  |.slF d l=>(match decEq d ec.2 with
   |isTrue h=>(app ei.bytes (xz h l) l').bind fun l2=>k (val (.sl ec.2 l2))
   |isFalse _=>none)
  |_=>none
def N1(t:TypeId)(v:CV S)(lo hi mx:Option Int)(ob:List (Nat×Nat×AO S))(ct:Nat)(k:sT S->Option γ):Option γ:=match v with
 |.aw o=>(oV tt t).bind fun ec=>(look o ob).bind fun a=>match a.2,lo,hi,mx with
  |.arr _ c _ l,some i,none,none=>(match decEq c ec.2 with
   |isTrue _=>(m8 (0<=i/\i<=(l.length:Int))).bind fun _=>k {v:=.one (.pt o ec.2 i ((l.length:Int)-i)),rd:=[o]}
   |isFalse _=>none)
  |.arr _ c _ l,some i,some j,none=>(match decEq c ec.2 with
   |isTrue _=>(m8 (0<=i/\i<=j/\j<=(l.length:Int))).bind fun _=>k {v:=.one (.pt o ec.2 i (j-i)),rd:=[o]}
   |isFalse _=>none)
  |_,_,_,_=>none
 |v=>Fx tt t v lo hi mx ob ct k
def adS(o:Nat)(s:CV S)(l:List UInt8):Option (List UInt8):=match s with
 |.pt o' c off n=>(match Nat.beq o' o,decEq c .u8 with
  |true,isTrue _=>some ((l.drop off.toNat).take n.toNat)
  |_,_=>none)
 |s=>slv .u8 s
def DN(t:TypeId)(o off:Nat)(lo hi mx:Option Int)(k:sT S->Option γ):Option γ:=
 (tt t).bind fun ti=>match ti.d,mx with
  |.array n e,none=>(tt e).bind fun ei=>(match Nat.beq ei.size 1 with
   |true=>(m8 (0<=lo.getD 0/\lo.getD 0<n/\lo.getD 0<=hi.getD n/\hi.getD n<=n)).bind fun _=>k (val (.px o off n (lo.getD 0) (hi.getD n)))
   |false=>none)
  |_,_=>none
def OX(ec:TypeId×Co)(o off n:Nat)(i j:Int)(s:CV S)(ob:List (Nat×Nat×AO S))(k:sT S->Option γ):Option γ:=match s,ec.2 with
 |.px o' off' n' i' j',.int _=>(match Nat.beq o' o&&(Nat.beq off' off&&Nat.beq n' n)with
  |true=>(look o ob).bind fun a=>(match a.2 with
   |.box T cs=>(cutAt off cs).bind fun cs1=>(match cs1 with
    |.ai n1 kk f::_=>(match Nat.beq n1 n with
     |true=>(Fs off (.ai n kk (BS f i.toNat i'.toNat (lN (j-i) (j'-i')).toNat)) cs).bind fun cs'=>k {v:=.one (.int .i64 (lN (j-i) (j'-i'))),rm:=[o],add:=[(o,.box T cs')]}
     |false=>none)
    |_=>none)
   |_=>none)
  |false=>none)
 |s,.u8=>(slv .u8 s).bind fun l=>(look o ob).bind fun a=>(match a.2 with
  |.box T cs=>(cutAt off cs).bind fun cs1=>(match cs1 with
   |.a8 n1 f::_=>(match Nat.beq n1 n with
    |true=>(Fs off (.a8 n (cpA f i.toNat (lN (List.length (α:=UInt8) l:Int) (j-i)).toNat l)) cs).bind fun cs'=>k {v:=.one (.int .i64 (lN (List.length (α:=UInt8) l:Int) (j-i))),rm:=[o],add:=[(o,.box T cs')]}
    |false=>none)
   |_=>none)
  |_=>none)
 |_,_=>none
def DM(t:TypeId)(o off:Nat)(lo hi mx:Option Int)(ob:List (Nat×Nat×AO S))(k:sT S->Option γ):Option γ:=
 (tt t).bind fun ti=>match ti.d,lo,hi,mx,off with
  |.array n e,none,none,none,0=>(tt e).bind fun ei=>(look o ob).bind fun a=>(match a.2 with
   |.box _ [.a8 n1 f]=>(match Nat.beq n1 n&&(Nat.beq ei.size 1&&(Nat.ble 1 n&&Nat.ble n 4096))with
    |true=>k {v:=.one (.sl .u8 (KN (α:=UInt8) n f)),rm:=[o]}
    |false=>none)
   |_=>none)
  |_,_,_,_,_=>none
def Nm(t:TypeId)(d s:CV S)(ob:List (Nat×Nat×AO S))(k:sT S->Option γ):Option γ:=
 (oV tt t).bind fun ec=>match d with
  |.pt o c off n=>(look o ob).bind fun a=>match a.2 with
   |.arr e c' full l=>(match decEq c' .u8,decEq c .u8,decEq ec.2 .u8 with
    |isTrue h,isTrue _,isTrue _=>(adS o s (xz h l)).bind fun x=>k {v:=.one (.int .i64 (lN (x.length:Int) n)),rm:=[o],add:=[(o,.arr e .u8 full (VS (α:=UInt8) (xz h l) off.toNat (x.take n.toNat)))]}
    |_,_,_=>none)
   |_=>none
  |.px o off n i j=>OX ec o off n i j s ob k
  |_=>none
def pxL(o off n:Nat)(i j:Int)(ob:List (Nat×Nat×AO S)):Option (List UInt8):=(look o ob).bind fun a=>match a.2 with
 |.box _ cs=>(cutAt off cs).bind fun cs1=>(match cs1 with
  |.a8 n1 f::_=>(match Nat.beq n1 n with|true=>some (((KN n f).drop i.toNat).take (j-i).toNat)|false=>none)
  |_=>none)
 |_=>none
def z7(t:TypeId)(q:Nat)(d:Co)(l:List (T S d))(o off n:Nat)(i j:Int)(ob:List (Nat×Nat×AO S))(ct:Nat)(k:sT S->Option γ):Option γ:=
 (oV tt t).bind fun ec=>(tt ec.1).bind fun ei=>(look q ob).bind fun a=>match a.2,decEq d .u8,decEq ec.2 .u8 with
  |.row e' d',isTrue h,isTrue _=>(match Nat.beq e' ec.1&&Nat.ble n 4096,decEq d' .u8 with
   |true,isTrue _=>(pxL o off n i j ob).bind fun l'=>(app (α:=UInt8) ei.bytes (xz h l) l').bind fun l2=>k {v:=.one (.rw (ct+1) .u8 l2),rd:=[o],rm:=[q],add:=[(ct+1,.row ec.1 .u8)]}
   |_,_=>none)
  |_,_,_=>none
def HZ(t:TypeId)(v:CV S)(ob:List (Nat×Nat×AO S))(k:sT S->Option γ):Option γ:=
 (oV tt t).bind fun ec=>(tt ec.1).bind fun ei=>(Kj tb ec.2 ei.zero).bind fun z=>match v with
  |.pt o c off n=>(look o ob).bind fun a=>match a.2 with
   |.arr e c' full l=>(match decEq c' ec.2,decEq c ec.2 with
    |isTrue h,isTrue _=>k {v:=.mj [],rm:=[o],add:=[(o,.arr e ec.2 full (EK (xz h l) off.toNat n.toNat z))]}
    |_,_=>none)
   |_=>none
  |_=>none
def LU:Co->Bool
 |.int _=>true
 |.u8=>true
 |.bo=>true
 |_=>false
def z8(t tx:TypeId)(v w:CV S)(ob:List (Nat×Nat×AO S))(ct:Nat)(k:sT S->Option γ):Option γ:=
 (oV tt t).bind fun ec=>(tt ec.1).bind fun ei=>(tt tx).bind fun xi=>match xi.d,v,w with
  |.int .i64,.fP,.int .i64 n=>(m8 (0<n/\n*ei.bytes<=140737488355328)).bind fun _=>k {v:=.one (.rz (ct+1) ec.2 n),add:=[(ct+1,.row ec.1 ec.2)]}
  |.int .i64,.rw o d l,.int .i64 n=>(match LU ec.2,mu ei.d,decEq d ec.2 with
   |true,false,isTrue h=>(look o ob).bind fun a=>(match a.2 with
    |.row e' d'=>(match Nat.beq e' ec.1,decEq d' ec.2 with
     |true,isTrue _=>(Kj tb ec.2 ei.zero).bind fun z=>(m8 (0<=n/\n*ei.bytes<=140737488355328)).bind fun _=>(app ei.bytes (xz h l) (List.replicate n.toNat z)).bind fun l2=>k {v:=.one (.rw (ct+1) ec.2 l2),rm:=[o],add:=[(ct+1,.row ec.1 ec.2)]}
     |_,_=>none)
    |_=>none)
   |_,_,_=>none)
  |_,_,_=>none
def We(t:TypeId)(v:CV S)(ob:List (Nat×Nat×AO S))(k:sT S->Option γ):Option γ:=
 (tt t).bind fun ti=>match ti.d with
 |.slice _=>(match v with
  |.sl _ l=>k (val (.int .i64 (l.length:Int)))
  |.slF _ l=>k (val (.int .i64 (l.length:Int)))
  |.rw _ _ l=>k (val (.int .i64 (l.length:Int)))
  |.fP=>k (val (.int .i64 0))
  |.aw o=>(look o ob).bind fun a=>match a.2 with
   |.arr _ _ _ l=>k {v:=.one (.int .i64 (l.length:Int)),rd:=[o]}
   |_=>none
  |_=>none)
 |.str=>(match v with| .str l=>k (val (.int .i64 (l.length:Int)))|_=>none)
 |.map _ _=>(match v with
  |.mp o=>(look o ob).bind fun a=>match a.2 with
   |.map _ _ _ l _=>k {v:=.one (.int .i64 (l.length:Int)),rd:=[o]}
   |_=>none
  |_=>none)
 |_=>none
def Nl(s d:TypeId)(v:CV S)(ob:List (Nat×Nat×AO S))(k:sT S->Option γ):Option γ:=
 (tt s).bind fun a=>(tt d).bind fun b=>match v,b.d with
 |.int _ x,.int kd=>k (val (wrI kd x))
 |.u8 x,.int .u8=>k (val (.u8 x))
 |.u8 x,.int .i8=>k (val (.int .i8 (IntKind.i8.wrap (x.toNat:Int))))
 |.u8 x,.int kd=>k (val (.int kd (x.toNat:Int)))
 |.str l,.str=>match a.d with| .str=>k (val (.str l))|_=>none
 |v,.str=>match a.d,a.co with
  |.slice e,.sl .u8=>(tt e).bind fun ei=>match ei.d with| .int .u8=>(slv (S:=S) .u8 v).bind fun l=>k (val (.str l))|_=>none
  |_,_=>none
 |.rw o c (y::l),.slice e=>match Nat.beq s d with
  |true=>(tt e).bind fun ei=>(look o ob).bind fun b=>match ei.d,b.2 with| .int .u8,.row _ _=>k {v:=.one (.sl c (y::l)),rm:=[o]}|_,_=>none
  |false=>none
 |_,_=>none
def xA:Co->AV S->Option (List (CV S))
 |.st _,.agg vs=>some vs
 |.st _,_=>none
 |_,.one v=>some [v]
 |_,_=>none
def Ap(t:TypeId):Option (Co×Co×TI S):=(tt t).bind fun ti=>match ti.d,ti.co with
 |.map _ e,.mp kc vc=>(tt e).bind fun ei=>(match GK tb kc&&(Vi vc&&!mu ei.d)with|true=>some (kc,vc,ei)|false=>none)
 |_,_=>none
def Pn(vc:Co)(y:Option (T S vc))(z:T S vc)(ok:Bool):AV S:=match ok with
 |true=>.mj [.one (toCV vc (y.getD z)),.one (boB y.isSome)]
 |false=>.one (toCV vc (y.getD z))
def NN(t:TypeId)(v:CV S)(key:AV S)(ok:Bool)(ob:List (Nat×Nat×AO S))(k:sT S->Option γ):Option γ:=
 (Ap tb tt t).bind fun i=>(xA i.1 key).bind fun cs=>(Kj tb i.1 cs).bind fun x=>(Kj tb i.2.1 i.2.2.zero).bind fun z=>match v with
 |.mp o=>(look o ob).bind fun a=>match a.2 with
  |.map t' kc vc l none=>(match Nat.beq t' t,decEq kc i.1,decEq vc i.2.1 with
   |true,isTrue h,isTrue h'=>k {v:=Pn i.2.1 (dT (qw tb i.1) (qj h h' l) x) z ok,rd:=[o]}
   |_,_,_=>none)
  |.sL t' kc vc l none _=>(match Nat.beq t' t,decEq kc i.1,decEq vc i.2.1 with
   |true,isTrue h,isTrue h'=>k {v:=Pn i.2.1 (dT (qw tb i.1) (qj h h' l) x) z ok,rd:=[o]}
   |_,_,_=>none)
  |_=>none
 |_=>none
def WD(t:TypeId)(v:CV S)(key w:AV S)(ob:List (Nat×Nat×AO S))(k:sT S->Option γ):Option γ:=
 (Ap tb tt t).bind fun i=>(xA i.1 key).bind fun cs=>(Kj tb i.1 cs).bind fun x=>(xA i.2.1 w).bind fun ws=>(Kj tb i.2.1 ws).bind fun y=>match v with
 |.mp o=>(look o ob).bind fun a=>match a.2 with
  |.map t' kc vc l none=>(match Nat.beq t' t,decEq kc i.1,decEq vc i.2.1 with
   |true,isTrue h,isTrue h'=>k {v:=AV.uI S,rm:=[o],add:=[(o,.map t i.1 i.2.1 (lP (qw tb i.1) (qj h h' l) x y) none)]}
   |_,_,_=>none)
  |.sL t' kc vc l none q=>(match Nat.beq t' t,decEq kc i.1,decEq vc i.2.1 with
   |true,isTrue h,isTrue h'=>(m8 ((dT (qw tb i.1) (qj h h' l) x).isSome=true)).bind fun _=>k {v:=AV.uI S,rm:=[o],add:=[(o,.sL t i.1 i.2.1 (lP (qw tb i.1) (qj h h' l) x y) none q)]}
   |_,_,_=>none)
  |_=>none
 |_=>none
def VV(t:TypeId)(v:CV S)(key:AV S)(ob:List (Nat×Nat×AO S))(k:sT S->Option γ):Option γ:=
 (Ap tb tt t).bind fun i=>(xA i.1 key).bind fun cs=>(Kj tb i.1 cs).bind fun x=>match v with
 |.mp o=>(look o ob).bind fun a=>match a.2 with
  |.map t' kc vc l none=>(match Nat.beq t' t,decEq kc i.1,decEq vc i.2.1 with
   |true,isTrue h,isTrue h'=>k {v:=.mj [],rm:=[o],add:=[(o,.map t i.1 i.2.1 (Wm (qw tb i.1) (qj h h' l) x) none)]}
   |_,_,_=>none)
  |_=>none
 |_=>none
def Je{a c:Co}(h:a=c)(x:T S a):T S c:=h▸x
def NS(t:TypeId)(v:CV S)(key:AV S)(ob:List (Nat×Nat×AO S))(ct:Nat)(k:sT S->Option γ):Option γ:=
 (Ap tb tt t).bind fun i=>(xA i.1 key).bind fun cs=>(Kj tb i.1 cs).bind fun x=>(Kj tb i.2.1 i.2.2.zero).bind fun z=>match v with
 |.mp o=>(look o ob).bind fun a=>match a.2 with
  |.map t' kc vc l none=>(match Nat.beq t' t,decEq kc i.1,decEq vc i.2.1 with
   |true,isTrue h,isTrue h'=>k {v:=.mj [.one (toCV i.2.1 ((dT (qw tb i.1) (qj h h' l) x).getD z)),.one (.stp o (ct+1))],rm:=[o],add:=[(o,.map t i.1 i.2.1 (Tf (qw tb i.1) (qj h h' l) x z) (some (x,ct+1)))]}
   |_,_,_=>none)
  |.sL t' kc vc l none q=>(match Nat.beq t' t,decEq kc i.1,decEq vc i.2.1 with
   |true,isTrue h,isTrue h'=>(m8 ((dT (qw tb i.1) (qj h h' l) x).isSome=true)).bind fun _=>k {v:=.mj [.one (toCV i.2.1 ((dT (qw tb i.1) (qj h h' l) x).getD z)),.one (.stp o (ct+1))],rm:=[o],add:=[(o,.sL t i.1 i.2.1 (qj h h' l) (some (x,ct+1)) q)]}
   |_,_,_=>none)
  |_=>none
 |_=>none
def V0(t:TypeId)(v s:CV S)(w:AV S)(ob:List (Nat×Nat×AO S))(k:sT S->Option γ):Option γ:=
 (Ap tb tt t).bind fun i=>(xA i.2.1 w).bind fun ws=>(Kj tb i.2.1 ws).bind fun y=>match v,s with
 |.mp o,.stp o' q=>(match Nat.beq o o' with
  |true=>(look o ob).bind fun a=>match a.2 with
   |.map t' kc vc l (some (x,q'))=>(match Nat.beq t' t&&Nat.beq q q',decEq kc i.1,decEq vc i.2.1 with
    |true,isTrue h,isTrue h'=>k {v:=AV.uI S,rm:=[o],add:=[(o,.map t i.1 i.2.1 (lP (qw tb i.1) (qj h h' l) (Je h x) y) none)]}
    |_,_,_=>none)
   |.sL t' kc vc l (some (x,q')) q0=>(match Nat.beq t' t&&Nat.beq q q',decEq kc i.1,decEq vc i.2.1 with
    |true,isTrue h,isTrue h'=>k {v:=AV.uI S,rm:=[o],add:=[(o,.sL t i.1 i.2.1 (lP (qw tb i.1) (qj h h' l) (Je h x) y) none q0)]}
    |_,_,_=>none)
   |_=>none
  |false=>none)
 |_,_=>none
def Iv(t:TypeId)(v:CV S)(ob:List (Nat×Nat×AO S))(ct:Nat)(k:sT S->Option γ):Option γ:=
 (Ap tb tt t).bind fun i=>match v with
 |.mp o=>(look o ob).bind fun a=>match a.2 with
  |.map t' kc vc l none=>(match Nat.beq t' t,decEq kc i.1,decEq vc i.2.1 with
   |true,isTrue h,isTrue h'=>k {v:=.one (.itp (ct+1)),rm:=[o],add:=[(o,.sL t i.1 i.2.1 (qj h h' l) none (ct+1)),(ct+1,.Jf i.1 o none)]}
   |_,_,_=>none)
  |_=>none
 |_=>none
def UE:(c:Co)->T S c->AV S
 |.st i,x=>.agg (WY tb (.st i) x)
 |c,x=>.one (toCV c x)
def H2(v:CV S)(ob:List (Nat×Nat×AO S))(k:sT S->Option γ):Option γ:=match v with
 |.itp q=>(look q ob).bind fun b=>match b.2 with
  |.Jf kc' o (some (some x))=>(look o ob).bind fun a=>match a.2 with
   |.sL t kc vc l none q'=>(Ap tb tt t).bind fun i=>(Kj tb i.2.1 i.2.2.zero).bind fun z=>(match Nat.beq q' q,decEq kc' i.1,decEq kc i.1,decEq vc i.2.1 with
    |true,isTrue h0,isTrue h,isTrue h'=>k {v:=.mj [UE tb i.1 (Je h0 x),.one (toCV i.2.1 ((dT (qw tb i.1) (qj h h' l) (Je h0 x)).getD z))],rd:=[q,o]}
    |_,_,_,_=>none)
   |_=>none
  |_=>none
 |_=>none
def adv:List (CV S)->Bool
 |[.fP]=>true
 |_=>false
def Bb(t:TypeId):Option (Co×Co×TypeId):=(tt t).bind fun ti=>match ti.d,ti.co with
 |.map _ e,.mp kc (.sl c)=>(tt e).bind fun si=>(oV tt e).bind fun ec=>(match GK tb kc&&adv si.zero,decEq ec.2 c with|true,isTrue _=>some (kc,c,ec.1)|_,_=>none)
 |_,_=>none
def H8(t:TypeId)(v:CV S)(key:AV S)(ok:Bool)(ob:List (Nat×Nat×AO S))(k:sT S->Option γ):Option γ:=
 (Bb tb tt t).bind fun i=>(xA i.1 key).bind fun cs=>(Kj tb i.1 cs).bind fun x=>match v,ok with
 |.mp o,false=>(look o ob).bind fun a=>match a.2 with
  |.fo t' _ kc c l none=>(match Nat.beq t' t,decEq kc i.1,decEq c i.2.1 with
   |true,isTrue h,isTrue h'=>k {v:=.one (.sl i.2.1 ((dT (qw tb i.1) (Jd h h' l) x).getD [])),rd:=[o]}
   |_,_,_=>none)
  |_=>none
 |_,_=>none
def Ig(t:TypeId)(v:CV S)(key:AV S)(ok:Bool)(ob:List (Nat×Nat×AO S))(ct:Nat)(k:sT S->Option γ):Option γ:=
 (Bb tb tt t).bind fun i=>(xA i.1 key).bind fun cs=>(Kj tb i.1 cs).bind fun x=>match v,ok with
 |.mp o,false=>(look o ob).bind fun a=>match a.2 with
  |.fo t' et kc c l none=>(match Nat.beq t' t&&Nat.beq et i.2.2,decEq kc i.1,decEq c i.2.1 with
   |true,isTrue h,isTrue h'=>k {v:=.one (.rw (ct+1) i.2.1 ((dT (qw tb i.1) (Jd h h' l) x).getD [])),rm:=[o],add:=[(o,.fo t i.2.2 i.1 i.2.1 (Jd h h' l) (some x)),(ct+1,.row i.2.2 i.2.1)]}
   |_,_,_=>none)
  |_=>none
 |_,_=>none
def Uv{α:Type}(eq:α->α->Bool)(x:α)(h:Option α)(k:Option γ):Option γ:=match h with
 |none=>k
 |some y=>(m8 (eq x y=true)).bind fun _=>k
def acj{a c:Co}(h:a=c)(x:Option (T S a)):Option (T S c):=h▸x
def Nx(t:TypeId)(v:CV S)(key:AV S)(w:CV S)(ob:List (Nat×Nat×AO S))(k:sT S->Option γ):Option γ:=
 (Bb tb tt t).bind fun i=>(xA i.1 key).bind fun cs=>(Kj tb i.1 cs).bind fun x=>match v,w with
 |.mp o,.rw p d l2=>(look o ob).bind fun a=>(look p ob).bind fun b=>match a.2,b.2 with
  |.fo t' et kc c l hole,.row et' c'=>(match Nat.beq t' t&&(Nat.beq et i.2.2&&Nat.beq et' i.2.2),decEq kc i.1,decEq c i.2.1,decEq c' i.2.1,decEq d i.2.1 with
   |true,isTrue h,isTrue h',isTrue _,isTrue hd=>Uv (qw tb i.1) x (acj h hole) (k {v:=AV.uI S,rm:=[o,p],add:=[(o,.fo t i.2.2 i.1 i.2.1 (lP (qw tb i.1) (Jd h h' l) x (xz hd l2)) none)]})
   |_,_,_,_,_=>none)
  |_,_=>none
 |_,_=>none
def YD:List (CV S)->Bool
 |[.ed]=>true
 |_=>false
def Ik(t:TypeId):Option Co:=(tt t).bind fun ti=>match ti.d,ti.co with
 |.map _ e,.mp kc (.a8 _)=>(tt e).bind fun fi=>(match GK tb kc&&(YD fi.zero&&!mu fi.d)with|true=>some kc|false=>none)
 |_,_=>none
def Qu{a c:Co}(h:a=c)(l:List (T S a×CV S)):List (T S c×CV S):=h▸l
def adb:CV S->Bool
 |.fn _ _ _=>true
 |_=>false
def LF(t:TypeId)(v:CV S)(key:AV S)(w:AV S)(ob:List (Nat×Nat×AO S))(k:sT S->Option γ):Option γ:=
 (Ik tb tt t).bind fun i=>(xA i key).bind fun cs=>(Kj tb i cs).bind fun x=>match v,w with
 |.mp o,.one f=>(look o ob).bind fun a=>match a.2 with
  |.MU t' kc l=>(match Nat.beq t' t&&adb f,decEq kc i with
   |true,isTrue h=>(match(Qu h l).any fun p=>qw tb i x p.1 with
    |true=>none
    |false=>k {v:=AV.uI S,rm:=[o],add:=[(o,.MU t i (Qu h l++[(x,f)]))]})
   |_,_=>none)
  |_=>none
 |_,_=>none
def LD(o:Nat)(c:Co)(x:T S c)(k:sT S->Option γ):List (T S c×CV S)->Option γ
 |[]=>k {v:=.one .ed,rd:=[o]}
 |p::l=>@ite _ (qw tb c x p.1=true) inferInstance (k {v:=.one p.2,rd:=[o]}) (LD o c x k l)
def Ij(t:TypeId)(v:CV S)(key:AV S)(ok:Bool)(ob:List (Nat×Nat×AO S))(k:sT S->Option γ):Option γ:=
 (Ik tb tt t).bind fun i=>(xA i key).bind fun cs=>(Kj tb i cs).bind fun x=>match v,ok with
 |.mp o,false=>(look o ob).bind fun a=>match a.2 with
  |.MU t' kc l=>(match Nat.beq t' t,decEq kc i with
   |true,isTrue h=>LD tb o i x k (Qu h l)
   |_,_=>none)
  |_=>none
 |_,_=>none
def CL:List (AV S)->Option (List (CV S))
 |[]=>some []
 |.one v::l=>(CL l).map (v:: ·)
 |.agg vs::l=>(CL l).map (.ag vs:: ·)
 |_::_=>none
def rR(place:Nat->Option (Nat×Nat)):List (CV S)->List (Nat×AV S)->Option (List (CV S))
 |cs,[]=>some cs
 |cs,(i,a)::l=>(place i).bind fun p=>(zi a).bind fun xs=>(YZ p.1 p.2 xs cs).bind fun cs'=>rR place cs' l
def k9(c:Co):List (Nat×AV S)->Option (List (T S c))
 |[]=>some []
 |(_,a)::l=>(zi a).bind fun xs=>(Kj tb c xs).bind fun x=>(k9 c l).map (x:: ·)
def Ll:Nat->List (Nat×AV S)->Bool
 |_,[]=>true
 |i,(j,_)::l=>Nat.beq i j&&Ll (i+1) l
def Fo(f:TypeId×Nat×Nat)(v:CV S)(k:sT S->Option γ):Option γ:=match Nat.ble 1 f.2.2,v with
 |true,.ptr o off=>k (val (.ptr o (off+f.2.1)))
 |true,.el c x off=>k (val (.el c x (off+f.2.1)))
 |true,.Se o v c x j off=>k (val (.Se o v c x j (off+f.2.1)))
 |_,_=>none
def unK(op:UnOp)(v:CV S)(k:sT S->Option γ):Option γ:=match op,v with
 |.not,.tt b=>k (val (.tt !b))
 |.not,.bo b _ _ _=>k (val (boN b))
 |.not,.na e n=>k (val (.na e (!n)))
 |.neg,.int kk x=>k (val (.int kk (kk.wrap (-x))))
 |.xor,.int kk x=>k (val (.int kk (eY kk (if kk.signed then -1 else kk.max) x)))
 |_,_=>none
def PO:Operand->Operand->Bool
 |.tmp a,.tmp b=>Nat.beq a b
 |.const (.int k n),.const (.int k' n')=>decide (k=k')&&decide (n=n')
 |_,_=>false
def core(o:Oper)(xs:List (AV S))(ob:List (Nat×Nat×AO S))(ct:Nat)(k:sT S->Option γ):Option γ:=
 match o.op with
 |.move _=>match xs with| [a]=>k {v:=a}|_=>none
 |.assign _=>match xs with| [a]=>k {v:=a}|_=>none
 |.pick _ _ _=>match xs with| [.one c,a,b]=>ifB c (fun z=>match z with|true=>k {v:=a}|false=>k {v:=b})|_=>none
 |.extract _ i=>match xs with| [.mj vs]=>(vs[i]?).bind fun a=>k {v:=a}|_=>none
 |.nilCheck _=>match xs with| [.one v]=>(match v with| .ptr _ _=>k (val v)| .fn (.func _) _ _=>k (val v)| .el _ _ _=>k (val v)| .Se _ _ _ _ _ _=>k (val v)|_=>none)|_=>none
 |.binOp op t _ y _=>match xs with| [a,b]=>VG tt op t y a b fun v=>k (val v)|_=>none
 |.unOp op _ _=>match xs with
  |[.one v]=>unK op v k
  |_=>none
 |.convert s d _=>match xs with| [.one v]=>Nl tt s d v ob k|_=>none
 |.fieldAddr t _ i=>match xs with
  |[.one v]=>(tt t).bind fun ti=>match ti.d with
   |.struct fs=>(fs[i]?).bind fun(f:TypeId×Nat×Nat)=>Fo f v k
   |_=>none
  |_=>none
 |.field t _ i=>match xs with
  |[.agg vs]=>(tt t).bind fun ti=>match ti.d with
   |.struct fs=>(fs[i]?).bind fun(f:TypeId×Nat×Nat)=>(tt f.1).bind fun fi=>(match mu fi.d with
    |true=>((cutAt f.2.1 vs).bind (Ah fi.size)).bind fun l=>k {v:=.agg l}
    |false=>(Cp f.2.1 vs).bind fun v=>k (val v))
   |_=>none
  |_=>none
 |.build t parts=>(tt t).bind fun ti=>(match ti.d with
  |.struct fs=>rR (fun i=>(fs[i]?).map fun(f:TypeId×Nat×Nat)=>f.2) ti.zero ((parts.toList.map Prod.fst).zip xs)
  |.array _ e=>(tt e).bind fun ei=>rR (fun i=>some (i*ei.size,ei.size)) ti.zero ((parts.toList.map Prod.fst).zip xs)
  |_=>none).bind fun cs=>k {v:=.agg cs}
 |.makeFunc f first _=>(CL xs).bind fun vs=>k (val (.fn f (vs.take first.size) (vs.drop first.size)))
 |.alloc t=>(tt t).bind fun ti=>k {v:=.one (.ptr (ct+1) 0),add:=[(ct+1,.box t ti.zero)]}
 |.box t _=>match xs with| [a]=>(zi a).bind fun cs=>k {v:=.one (.ptr (ct+1) 0),add:=[(ct+1,.box t cs)]}|_=>none
 |.load t _=>match xs with| [.one v]=>NM tb tt t v ob k|_=>none
 |.store t _ _=>match xs with| [.one p,a]=>IU tb tt t p a ob k|_=>none
 |.indexAddr t _ y=>match xs with| [.one v,i]=>(idxOf i).bind fun i=>Ih tt t y v i ob k|_=>none
 |.index t _ _=>(tt t).bind fun ti=>match ti.d,xs with
  |.str,[.one (.str l),i]=>(idxOf i).bind fun i=>(idx l i).bind fun c=>k (val (.u8 c))
  |.array n e,[.agg [.ai n' kk f],i]=>(tt e).bind fun ei=>(idxOf i).bind fun i=>(match Nat.beq n' n,Nat.beq ei.size 1,mu ei.d with
   |true,true,false=>(m8 (0<=i/\i<n)).bind fun _=>k (val (.int kk (cw f i)))
   |_,_,_=>none)
  |_,_=>none
 |.slice t _ lo hi mx=>match xs with
  |.one v::r=>(Bq lo r).bind fun a=>(Bq hi a.2).bind fun b=>(Bq mx b.2).bind fun c=>match v with| .ptr o off=>(match has t fa.parts with|true=>DM tt t o off a.1 b.1 c.1 ob k|false=>DN tt t o off a.1 b.1 c.1 k)|v=>(match has t fa.parts&&a.1.isSome with|true=>N1 tt t v a.1 b.1 c.1 ob ct k|false=>Fx tt t v a.1 b.1 c.1 ob ct k)
  |_=>none
 |.buildSlice t len parts=>(oV tt t).bind fun ec=>(tt ec.1).bind fun ei=>
  let ps:=(parts.toList.map Prod.fst).zip xs
  match Nat.beq len xs.length&&Ll 0 ps&&Nat.ble (len*ei.size) 16777216 with
  |true=>(k9 tb ec.2 ps).bind fun l=>match has t fa.lits||(Nat.beq len 0&&has t fa.lW)with
   |true=>k {v:=.one (.aw (ct+1)),add:=[(ct+1,.arr ec.1 ec.2 true l)]}
   |false=>k {v:=.one (.rw (ct+1) ec.2 l),add:=[(ct+1,.row ec.1 ec.2)]}
  |false=>none
 |.makeMap t r=>match r,xs with
  |none,[]=>(match Ap tb tt t with
   |some i=>k {v:=.one (.mp (ct+1)),add:=[(ct+1,.map t i.1 i.2.1 [] none)]}
   |none=>(match Bb tb tt t with
    |some i=>k {v:=.one (.mp (ct+1)),add:=[(ct+1,.fo t i.2.2 i.1 i.2.1 [] none)]}
    |none=>(Ik tb tt t).bind fun i=>k {v:=.one (.mp (ct+1)),add:=[(ct+1,.MU t i [])]}))
  |_,_=>none
 |.lookup t _ _ ok=>match xs with| [.one v,key]=>(match(Ap tb tt t).isSome,(Bb tb tt t).isSome with|true,_=>NN tb tt t v key ok ob k|false,true=>(match has t fa.takes with|true=>Ig tb tt t v key ok ob ct k|false=>H8 tb tt t v key ok ob k)|false,false=>Ij tb tt t v key ok ob k)|_=>none
 |.mapEntry t _ _=>match xs with| [.one v,key]=>NS tb tt t v key ob ct k|_=>none
 |.entryStore t _ _ _=>match xs with| [.one v,.one s,w]=>V0 tb tt t v s w ob k|_=>none
 |.mapUpdate t _ _ _=>match xs with| [.one v,key,w]=>(match(Ap tb tt t).isSome,(Bb tb tt t).isSome with|true,_=>WD tb tt t v key w ob k|false,true=>(match w with| .one w=>Nx tb tt t v key w ob k|_=>none)|false,false=>LF tb tt t v key w ob k)|_=>none
 |.range t _=>match xs with| [.one v]=>Iv tb tt t v ob ct k|_=>none
 |.entry _=>match xs with| [.one v]=>H2 tb tt v ob k|_=>none
 |.makeSlice t x y=>match xs,PO x y with
  |[a,_],true=>(idxOf a).bind fun n=>(oV tt t).bind fun ec=>(tt ec.1).bind fun ei=>(match LU ec.2,mu ei.d with
   |true,false=>(Kj tb ec.2 ei.zero).bind fun z=>(m8 (0<=n/\n*ei.bytes<=140737488355328)).bind fun _=>
    k {v:=.one (.aw (ct+1)),add:=[(ct+1,.arr ec.1 ec.2 true (List.replicate n.toNat z))]}
   |_,_=>none)
  |_,_=>none
 |.call c=>match c.callee with
  |.builtin b=>match b,xs with
   |.len,[.one v]=>(match c.argTypes.toList with| [t]=>We tt t v ob k|_=>none)
   |.append,[.one v,.one w]=>(match c.argTypes.toList with| [t,t']=>(match Nat.beq t t' with|true=>(match v,w with| .rw q d l,.px o off n i j=>z7 tt t q d l o off n i j ob ct k|v,w=>Dm tt fa t v w ob ct k)|false=>z8 tb tt t t' v w ob ct k)|_=>none)
   |.copy,[.one v,.one w]=>(match c.argTypes.toList with| [t,_]=>Nm tt t v w ob k|_=>none)
   |.clear,[.one v]=>(match c.argTypes.toList with| [t]=>HZ tb tt t v ob k|_=>none)
   |.delete,[.one v,key]=>(match c.argTypes.toList with| [t,_]=>VV tb tt t v key ob k|_=>none)
   |.cap,[.one .fP]=>(match c.argTypes.toList with| [t]=>(oV tt t).bind fun _=>k (val (.int .i64 0))|_=>none)
   |.min,[.one v,.one w]=>(num v).bind fun x=>(num w).bind fun y=>match decEq x.1 y.1 with|isTrue _=>k (val (Sf x.1 (lN x.2 y.2)))|isFalse _=>none
   |.max,[.one v,.one w]=>(num v).bind fun x=>(num w).bind fun y=>match decEq x.1 y.1 with|isTrue _=>k (val (Sf x.1 (imax x.2 y.2)))|isFalse _=>none
   |_,_=>none
  |.value _=>match xs with
   |.one (.fn (.func f) first caps)::args=>(match Nat.ble f 999999 with|true=>zh tb f (first.map Hu++args++caps.map Hu) ob ct k Φ|false=>none)
   |.one (.yl q)::args=>(look q ob).bind fun a=>match a.2 with| .loop r .ready _=>zh tb (Z3 r) (.one (.yl q)::args) ob ct k Φ|_=>none
   |_=>none
  |.invoke _ _=>none
 |.insert t _ _ _=>match xs with| [.one v,key,w]=>LF tb tt t v key w ob k|_=>none
 |_=>none
end
def Dk:CV S->List Value
 |.int k x=>[.int k x]
 |.u8 x=>[.int .u8 (x.toNat:Int)]
 |.tt b=>[.bool b]
 |.str l=>[.string (Proofs.YtekpafdhgkocaaaGreat.str l)]
 |.fP=>[.slice none 0 0]
 |.mb=>[.pointer none]
 |.ed=>[.nilFunc]
 |.B6=>[.map none]
 |.GP=>[.nilIface]
 |.a8 n f=>(List.range n).map (fun i=>.int .u8 ((f i).toNat:Int))
 |.ai n k f=>(List.range n).map (fun i=>.int k (f i))
 |_=>[]
def qG(vs:List (CV S)):List Value:=vs.flatMap Dk
def eqV:Value->Value->Bool
 |.int k n,.int k' n'=>decide (k=k')&&decide (n=n')
 |.bool b,.bool b'=>b == b'
 |.slice none 0 0,.slice none 0 0=>true
 |.pointer none,.pointer none=>true
 |.nilFunc,.nilFunc=>true
 |.map none,.map none=>true
 |.nilIface,.nilIface=>true
 |.string s,.string s'=>decide (s.data.toList=s'.data.toList)
 |_,_=>false
def VZ:List Value->List Value->Bool
 |[],[]=>true
 |v::vs,w::ws=>match eqV v w with|true=>VZ vs ws|false=>false
 |_,_=>false
def J1:Value->Option (CV S)
 |.int .u8 n=>match decEq (n % 256) n with|isTrue _=>some (.u8 (G.u8 n))|isFalse _=>none
 |.int k n=>some (.int k n)
 |.bool b=>some (.tt b)
 |.string s=>some (.str s.data.toList)
 |.slice none 0 0=>some .fP
 |.pointer none=>some .mb
 |.nilFunc=>some .ed
 |.map none=>some .B6
 |.nilIface=>some .GP
 |_=>none
def Af:List Value->Option (List (CV S))
 |[]=>some []
 |v::vs=>(J1 v).bind fun x=>(Af vs).map (x:: ·)
def OV(tt:TypeId->Option (TI S))(t:TypeId):Value->Option (AV S)
 |.agg cs=>match tt t with
  |some i=>(match VZ (qG i.zero) cs.toList with|true=>some (.agg i.zero)|false=>(Af cs.toList).map .agg)
  |none=>(Af cs.toList).map .agg
 |.tuple vs=>match vs.toList with| []=>some (AV.uI S)|_=>none
 |v=>(J1 v).map .one
def Rn(o:Oper):List TypeId:=match o.op with
 |.move _=>[o.type]
 |.assign _=>[o.type]
 |.store t _ _=>[0,t]
 |.binOp _ t _ _ _=>[t,t]
 |.call c=>match c.callee with| .builtin _=>c.argTypes.toList|_=>0::c.argTypes.toList
 |_=>[]
def AS.get(σ:AS S)(t:Tmp):Option (Nat×AV S):=look (σ.fb+t) σ.tm
def zu(tt:TypeId->Option (TI S))(σ:AS S)(t:TypeId):Operand->Option (AV S)
 |.tmp u=>(σ.get u).map (·.2)
 |.const v=>OV tt t v
 |.func f=>some (.one (.fn (.func f) [] []))
 |.global _=>none
def Av(tt:TypeId->Option (TI S))(σ:AS S):List TypeId->List Operand->Option (List (AV S))
 |_,[]=>some []
 |[],x::xs=>(zu tt σ 0 x).bind fun a=>(Av tt σ [] xs).map (a:: ·)
 |t::ts,x::xs=>(zu tt σ t x).bind fun a=>(Av tt σ ts xs).map (a:: ·)
def RM(cL:Nat)(b:Bool):List (Nat×Nat×AV S)->List (Nat×Nat×AV S)
 |[]=>[]
 |(t,v,a)::l=>match Nat.beq v cL with|true=>(t,v,.one (.tt b))::RM cL b l|false=>(t,v,a)::RM cL b l
def AS.qW(σ:AS S)(cL:Nat)(b:Bool):AS S:={σ with tm:=RM cL b σ.tm}
def AS.put(σ:AS S)(d:Option Tmp)(cL:Option Nat)(v:AV S):AS S:=match d with
 |some d=>{σ with tm:=(σ.fb+d,cL.getD σ.ct,v)::drop1 (σ.fb+d) σ.tm}
 |none=>σ
def DU(v:Nat):List (Nat×AO S)->List (Nat×Nat×AO S)
 |[]=>[]
 |(q,a)::l=>(q,v,a)::DU (v+1) l
def AS.JV(σ:AS S)(d:Option Tmp)(cL:Option Nat)(r:sT S):AS S:=
 {σ.put d cL r.v with ob:=DU (σ.ct+32) r.add++gR r.rm σ.ob,ct:=σ.ct+64}
def xn(σ:AS S):Op->Option Nat
 |.move (.tmp t)=>(σ.get t).map (·.1)
 |.assign (.tmp t)=>(σ.get t).map (·.1)
 |_=>none
abbrev Log:=List (Nat×List Nat×List Nat)
def GM(ops:Array Oper):Log->Bool
 |[]=>true
 |(j,rd,rm)::l=>(l.all fun p=>D.W8 ops p.1 j||!(rm.any (fun x=>has x p.2.1||has x p.2.2)||rd.any fun x=>has x p.2.2))&&GM ops l
section
variable {γ:Type}(tt:TypeId->Option (TI S))(Φ:List (cU S))(fa:FA S)
def Cy(ops:Array Oper)(g:Option (Nat×Bool))(σ:AS S)(go:Bool->AS S->Option γ):Option γ:=match g with
 |none=>go true σ
 |some (j,b)=>match(BH ops j).bind σ.get with
  |some (cL,.one v)=>(match v with
   |.tt c=>go (c == b) σ
   |.bo _ p d _=>@ite _ p d (go b (σ.qW cL true)) (go (!b) (σ.qW cL false))
   |_=>none)
  |some (_,.mj [])=>go false σ
  |_=>none
def zk(sq:Bool)(ops:Array Oper):List Oper->Nat->AS S->Log->(AS S->Log->Option γ)->Option γ
 |[],_,σ,lg,k=>k σ lg
 |o::rest,i,σ,lg,k=>Cy ops o.guard σ fun run σ=>match run with
  |false=>zk sq ops rest (i+1) {σ.put o.dst none (AV.uI S)with ct:=σ.ct+64} lg k
  |true=>match Av tt σ (Rn o) o.op.operands.toList with
   |some xs=>match aa7 fa sq o xs with
    |none=>core tb tt Φ fa o xs σ.ob σ.ct fun r=>match nI (r.rd++r.rm)with
     |true=>zk sq ops rest (i+1) (σ.JV o.dst (xn σ o.op) r) ((i,r.rd,r.rm++r.add.map (·.1))::lg) k
     |false=>none
    |some fx=>vZ tb fx.1 fx.2 σ.ob σ.ct (fun r=>zk sq ops rest (i+1) (σ.JV o.dst none r) lg k) fa.nd
   |none=>none
end
inductive An where
 |o
 |u (a:An)
 |b (l r:An)
 |j (J:JA) (a:An)
 |lp (J:JA) (a:An)
 |mr (J:JA) (q:Nat) (a:An)
 |z (l:List (Nat×Nat×PrK)) (a:An)
 deriving Inhabited
def An.l1:An->An
 |.u a=>a
 |.b l _=>l
 |_=>.o
def An.r1:An->An
 |.b _ r=>r
 |_=>.o
variable (S) in
def Kp(β:Type):=∀γ:Type,(β->γ)->W4->AS S->Option γ
variable (S) in
def W:=An->AS S->(β:Type)->Kp S β->(γ:Type)->(β->γ)->Option γ
def yf:Code->List Nat
 |.seq x y=>yf x++yf y
 |.cond _ x y=>yf x++yf y
 |.block _ x=>yf x
 |.scope x=>yf x
 |.loop x=>yf x
 |.region _ ops _=>ops.toList.filterMap (·.dst)
 |.rangeFunc _ ps x y=>ps.toList++(yf x++yf y)
 |_=>[]
def JA.at_(J:JA)(c:Code)(fb:Nat):JA:={J with kill:=(yf c).map (fb+ ·)++J.kill}
def kN(J:JA)(σ:AS S):Kp S (HT S J.ls):=fun _ e ex σ'=>match ex with
 |.normal=>(pack tb J σ σ').bind fun z=>some (e z)
 |_=>none
def kJ(J:JA)(σ:AS S){β γ:Type}(κ:Kp S β)(emb:β->γ):Kp S (HT S J.ls⊕γ):=fun δ e ex σ'=>match ex with
 |.normal=>(pack tb J σ σ').bind fun z=>some (e (.inl z))
 |ex=>κ δ (fun b=>e (.inr (emb b))) ex σ'
def kS{β:Type}(f:W S)(an:An)(κ:Kp S β):Kp S β:=fun δ e ex σ'=>match ex with
 |.normal=>f an σ' β κ δ e
 |ex=>κ δ e ex σ'
def kB{β:Type}(id:Nat)(κ:Kp S β):Kp S β:=fun δ e ex σ'=>match ex with
 |.exit n=>match Nat.beq n id with|true=>κ δ e .normal σ'|false=>κ δ e (.exit n) σ'
 |ex=>κ δ e ex σ'
def wj0(c:Code)(f:W S):W S:=fun an σ β κ γ emb=>match an with
 |.j J a=>match J.early with
  |false=>(f a σ (HT S J.ls) (kN tb (J.at_ c σ.fb) σ) (HT S J.ls) id).bind fun z=>
   match unpack tb (J.at_ c σ.fb) σ z with|some σ1=>κ γ emb .normal σ1|none=>none
  |true=>(f a σ (HT S J.ls⊕γ) (kJ tb (J.at_ c σ.fb) σ κ emb) (HT S J.ls⊕γ) id).bind fun z=>
   uq z fun u=>match unpack tb (J.at_ c σ.fb) σ u with|some σ1=>κ γ emb .normal σ1|none=>none
 |a=>f a σ β κ γ emb
def wj(c:Code)(f:W S):W S:=fun an σ β κ γ emb=>match an with
 |.z l a=>match Ir l σ with|some σ1=>wj0 tb c f a σ1 β κ γ emb|none=>none
 |an=>wj0 tb c f an σ β κ γ emb
def BB:Code->Nat
 |.region id _ _=>id
 |.seq x _=>BB x
 |_=>0
def wD(σ:AS S)(lp:AO S):AS S:={σ with ob:=(σ.ct+1,σ.ct+32,lp)::σ.ob,ct:=σ.ct+64}
def ta(q:Nat)(σ2:AS S){β γ:Type}(κ:Kp S β)(emb:β->γ):Option γ:=
 match look q σ2.ob with
 |some (_,.loop _ st _)=>(match st with
  |.ready=>κ γ emb .normal {σ2 with ob:=gR [q] σ2.ob}
  |.done .ret=>κ γ emb .ret {σ2 with ob:=gR [q] σ2.ob}
  |.done (.exit n)=>κ γ emb (.exit n) {σ2 with ob:=gR [q] σ2.ob}
  |_=>none)
 |_=>none
def hd2(ops:Array Oper):Option (Nat×Nat×Nat):=match ops.toList with
 |[a,b]=>match a.op,a.dst,a.guard,b.op,b.dst,b.guard with
  |.next (.tmp it) false,some nx,none,.extract (.tmp nx') 0,some c,none=>(match Nat.beq nx nx' with|true=>some (it,nx,c)|false=>none)
  |_,_,_,_,_,_=>none
 |_=>none
def Uj(t:Nat)(l:List (Nat×Nat×AV S)):List (Nat×Nat×AV S):=l.filter fun p=>!Nat.beq p.1 t
def AS.fI(σ:AS S)(t:Nat):AS S:={σ with tm:=Uj (σ.fb+t) σ.tm}
def Th(q it:Nat)(σ:AS S):Bool:=match σ.get it,look q σ.ob with
 |some (_,.one (.itp q')),some (_,.Jf kc o _)=>(match look o σ.ob with
  |some (_,.sL _ kc' _ _ none q2)=>Nat.beq q' q&&(Nat.beq q2 q&&match decEq kc' kc with|isTrue _=>true|isFalse _=>false)
  |_=>false)
 |_,_=>false
def Wo(q it nx c:Nat){kc:Co}(x:T S kc)(σ:AS S):Option (AS S):=match look q σ.ob with
 |some (_,.Jf kc' o _)=>(match decEq kc kc',Th q it σ with
  |isTrue h,true=>some (Qh {(σ.fI nx).fI c with ob:=gR [q] σ.ob} q (.Jf kc' o (some (some (Je h x)))))
  |_,_=>none)
 |_=>none
def NV(q it nx c:Nat)(σ:AS S):Option (AS S):=match look q σ.ob with
 |some (_,.Jf _ o _)=>(match look o σ.ob,Th q it σ with
  |some (_,.sL t kc vc l none _),true=>some (Qh {((σ.fI nx).fI c).fI it with ob:=gR [o] (gR [q] σ.ob)} o (.map t kc vc l none))
  |_,_=>none)
 |_=>none
def kM(q ver:Nat)(J:JA)(σ:AS S){β γ:Type}(κ:Kp S β)(emb:β->γ):Kp S (HT S J.ls⊕γ):=fun δ e ex σ'=>match ex with
 |.normal=>(match look q σ'.ob with
  |some (v,_)=>(match Nat.beq v ver with|true=>(pack tb J σ σ').bind fun z=>some (e (.inl z))|false=>none)
  |none=>none)
 |ex=>κ δ (fun b=>e (.inr (emb b))) ex σ'
def Ye{kc kc' vc:Co}(h:kc'=kc)(l:List (T S kc'×T S vc)):List (T S kc):=h▸l.map (·.1)
noncomputable def mrK(J:JA)(q:Nat)(σ:AS S)(it nx c out:Nat)(f:AS S->(β:Type)->Kp S β->(γ:Type)->(β->γ)->Option γ){β γ:Type}(κ:Kp S β)(emb:β->γ):Option γ:=match look q σ.ob with
 |some (_,.Jf kc o none)=>(match look o σ.ob with
  |some (_,.sL _ kc1 _ l none q1)=>(match decEq kc1 kc,Nat.beq q1 q with
   |isTrue h,true=>(pack tb J σ σ).bind fun z0=>z5 (fun p:List (T S kc)=>p.Perm (Ye h l)) fun p=>pR
    (fun x z=>match unpack tb J σ z with
     |some σ1=>(match Wo q it nx c x σ1 with
      |some σ2=>f σ2 (HT S J.ls⊕γ) (kM tb q (σ1.ct+32) J σ κ emb) (HT S J.ls⊕γ) id
      |none=>none)
     |none=>none)
    (fun z=>match unpack tb J σ z with
     |some σ1=>(match NV q it nx c σ1 with
      |some σ2=>κ γ emb (.exit out) σ2
      |none=>none)
     |none=>none) p z0
   |_,_=>none)
  |_=>none)
 |_=>none
section
variable (tt:TypeId->Option (TI S))(Φ:List (cU S))(fa:FA S)
noncomputable def Gx:Code->W S
 |.skip=>wj tb (.skip) fun _ σ _ κ γ emb=>κ γ emb .normal σ
 |.label _=>wj tb (.label default) fun _ σ _ κ γ emb=>κ γ emb .normal σ
 |.ret=>wj tb (.ret) fun _ σ _ κ γ emb=>κ γ emb .ret σ
 |.exit n=>wj tb (.exit n) fun _ σ _ κ γ emb=>κ γ emb (.exit n) σ
 |.seq x y=>wj tb (.seq x y) fun an σ β κ γ emb=>Gx x an.l1 σ β (kS (Gx y) an.r1 κ) γ emb
 |.cond c x y=>wj tb (.cond c x y) fun an σ β κ γ emb=>match c with
  |.tmp t=>match σ.get t with
   |some (cL,.one v)=>(match v with
    |.tt true=>Gx x an.l1 σ β κ γ emb
    |.tt false=>Gx y an.r1 σ β κ γ emb
    |.bo _ p d _=>@ite _ p d (Gx x an.l1 (σ.qW cL true) β κ γ emb) (Gx y an.r1 (σ.qW cL false) β κ γ emb)
    |.na true _=>agree (Gx x an.l1 (σ.qW cL true) β κ γ emb) (Gx y an.r1 (σ.qW cL false) β κ γ emb)
    |.na false true=>Gx x an.l1 (σ.qW cL true) β κ γ emb
    |.na false false=>Gx y an.r1 (σ.qW cL false) β κ γ emb
    |_=>none)
   |_=>none
  |.const (.bool true)=>Gx x an.l1 σ β κ γ emb
  |.const (.bool false)=>Gx y an.r1 σ β κ γ emb
  |_=>none
 |.block id body=>wj tb (.block id body) fun an σ β κ γ emb=>Gx body an.l1 σ β (kB id κ) γ emb
 |.scope body=>wj tb (.scope body) fun an σ β κ γ emb=>Gx body an.l1 σ β κ γ emb
 |.loop body=>wj tb (.loop body) fun an σ _ κ γ emb=>match an with
  |.lp J a=>(pack tb (J.at_ (.loop body) σ.fb) σ σ).bind fun z0=>Iter (fun z=>match unpack tb (J.at_ (.loop body) σ.fb) σ z with
   |some σ1=>Gx body a σ1 (HT S J.ls⊕γ) (kJ tb (J.at_ (.loop body) σ.fb) σ κ emb) (HT S J.ls⊕γ) id
   |none=>none) z0
  |.mr J q a=>(match body with
   |.seq (.region _ ops false) (.seq (.cond (.tmp c') .skip (.exit out)) rest)=>(match hd2 ops with
    |some (it,nx,c)=>(match Nat.beq c' c with
     |true=>mrK tb (J.at_ (.loop body) σ.fb) q σ it nx c out (fun σ2 β κ γ emb=>Gx rest a σ2 β κ γ emb) κ emb
     |false=>none)
    |none=>none)
   |_=>none)
  |_=>none
 |.region _ ops draw=>wj tb (.region default ops draw) fun _ σ _ κ γ emb=>zk tb tt Φ fa (!draw) ops ops.toList 0 σ [] fun σ' lg=>match !draw||(GM ops lg&&nI (σ'.ob.map (·.1)))with
  |true=>κ γ emb .normal σ'
  |false=>none
 |.rangeFunc g ps x y=>wj tb (.rangeFunc g ps x y) fun _ σ _ κ γ emb=>match fa.rd,σ.fb,zu tt σ 0 g with
  |false,0,some (.one (.fn (.func f) [] caps))=>(match Nat.ble f 999999 with
   |true=>(match fa.nd.any fun c=>Nat.beq c.f f with
    |false=>zh tb f (.one (.yl (σ.ct+1))::caps.map Hu) (wD σ (.loop (fa.fn*1000+BB x) .ready σ.tm)).ob (σ.ct+64) (fun r=>match nI (r.rd++r.rm)with
     |true=>ta (σ.ct+1) ((wD σ (.loop (fa.fn*1000+BB x) .ready σ.tm)).JV none none r) κ emb
     |false=>none) Φ
    |true=>vZ tb f (.one (.yl (σ.ct+1))::caps.map Hu) (wD σ (.loop (fa.fn*1000+BB x) .ready σ.tm)).ob (σ.ct+64) (fun r=>ta (σ.ct+1) ((wD σ (.loop (fa.fn*1000+BB x) .ready σ.tm)).JV none none r) κ emb) fa.nd)
   |false=>none)
  |_,_,_=>none
 |.goto _=>fun _ _ _ _ _ _=>none
 |.refuse _=>fun _ _ _ _ _ _=>none
def Ce:Nat->List (AV S)->List (Nat×Nat×AV S)
 |_,[]=>[]
 |i,a::l=>(i,64+i,a)::Ce (i+1) l
def start(c:cU S)(x:HT S c.ls):Option (AS S):=
 (xB c.bk (Ai c.ls x)).bind fun ds=>(PS.kV tb id c.ins ds).bind fun p=>(OS.kV tb id c.eW p.2).bind fun q=>
 some {tm:=Ce 0 p.1,ob:=Q7 0 q.1,ct:=256,fb:=0,rt:=List.range c.eW.length}
def vm(tt:TypeId->Option (TI S))(σ:AS S):List ResultVar->Option (List (AV S))
 |[]=>some []
 |.tmp t::l=>(σ.get t).bind fun a=>(vm tt σ l).map (a.2:: ·)
 |.cell t ty::l=>(σ.get t).bind fun a=>match a.2 with
  |.one (.ptr o 0)=>(look o σ.ob).bind fun b=>match b.2 with
   |.box _ cs=>(tt ty).bind fun i=>(match mu i.d with|true=>(Ah i.size cs).map AV.agg|false=>(Cp 0 cs).map AV.one).bind fun v=>(vm tt σ l).map (v:: ·)
   |_=>none
  |_=>none
def CK:List (AV S)->AV S
 |[a]=>a
 |l=>.mj l
def OS.pj(ob:List (Nat×Nat×AO S))(mp:List (Nat×Nat)):Nat->List KS->Option (List (qh S)×List (Nat×Nat))
 |_,[]=>some ([],mp)
 |o,.now s::l=>(look o mp).bind fun q=>(look q ob).bind fun a=>(OS.take tb mp s a.2).bind fun p=>(OS.pj ob p.2 (o+1) l).map fun r=>(p.1++r.1,r.2)
 |o,_::l=>OS.pj ob mp (o+1) l
def U2:Nat->List Nat->List (Nat×Nat)
 |_,[]=>[]
 |i,x::l=>(i,x)::U2 (i+1) l
def LC(σ0 σ:AS S):Nat->List KS->Bool
 |_,[]=>true
 |o,.kept::l=>(match σ.rt[o]? with|some q=>Nat.beq q o|none=>false)&&(match look o σ0.ob,look o σ.ob with|some x,some y=>Nat.beq x.1 y.1|_,_=>false)&&LC σ0 σ (o+1) l
 |o,_::l=>LC σ0 σ (o+1) l
def tY(mp:List (Nat×Nat)):Nat->List KS->List Nat
 |_,[]=>[]
 |o,.now _::l=>match look o mp with|some q=>q::tY mp (o+1) l|none=>tY mp (o+1) l
 |o,_::l=>tY mp (o+1) l
def qO:Nat->List KS->List Nat
 |_,[]=>[]
 |o,.kept::l=>o::qO (o+1) l
 |o,_::l=>qO (o+1) l
def finish(n:Nat)(o:Out)(v:AV S)(σ0 σ:AS S):Option (HT S o.Bl):=
 (PS.take tb (U2 0 σ.rt) o.out v).bind fun p=>(OS.pj tb σ.ob p.2 0 o.lB).bind fun q=>
 match LC σ0 σ 0 o.lB&&(nI (qO 0 o.lB++tY q.2 0 o.lB)&&Nat.beq σ.rt.length n&&q.2.all fun p=>Nat.ble (p.1+1) o.lB.length)with
 |true=>(xB o.pm' (p.1++q.1)).bind (BT o.Bl)
 |false=>none
def zl(n:Nat)(v:AV S)(σ0 σ:AS S):(os:List Out)->Option (qX S os)
 |[]=>none
 |[o]=>finish tb n o v σ0 σ
 |o::p::os=>match finish tb n o v σ0 σ with
  |some z=>some (Sum.inl z)
  |none=>(zl n v σ0 σ (p::os)).map Sum.inr
noncomputable def evF(c:cU S)(rs:List ResultVar)(body:Code)(an:An)(x:HT S c.ls):Option (qX S c.outs):=
 match start tb c x with
 |some σ0=>Gx tb tt Φ fa body an σ0 (qX S c.outs) (fun _ e' ex σ=>match ex with
  |.exit _=>none
  |_=>(Ir fa.pre σ).bind fun σ=>(vm tt σ rs).bind fun vs=>(zl tb c.eW.length (CK vs) σ0 σ c.outs).bind fun y=>some (e' y)) (qX S c.outs) id
 |none=>none
noncomputable def evN(c:NC S)(rs:List ResultVar)(body:Code)(an:An)(γ:Type)(k:HT S c.out.Bl->Option γ)(x:HT S c.ls):Option γ:=
 match start tb c.ctr x with
 |some σ0=>Gx tb tt Φ fa body an σ0 γ (fun _ e' ex σ=>match ex with
  |.exit _=>none
  |_=>(Ir fa.pre σ).bind fun σ=>(vm tt σ rs).bind fun vs=>(finish tb c.eW.length c.out (CK vs) σ0 σ).bind fun y=>(k y).map e') γ id
 |none=>none
def L9:List Nat->List (Nat×Nat×AV S)->List (Nat×Nat×AV S)->Option (List (Nat×Nat×AV S))
 |[],[],tm=>some tm
 |p::ps,(_,cL,v)::l,tm=>L9 ps l ((p,cL,v)::drop1 p tm)
 |_,_,_=>none
def Y4:Nat->List (Nat×Nat×AV S)->List (Nat×Nat×AV S)
 |_,[]=>[]
 |v,(t,_,x)::l=>(t,v,x)::Y4 (v+1) l
def ZB(r:Nat)(ps:List Nat)(σ:AS S):Option (AS S):=match look 0 σ.ob,σ.tm with
 |some (_,.loop r' .ready tm),(_,_,.one (.yl 0))::l=>(match Nat.beq r' r&&Nat.ble tm.length 200 with|true=>(L9 ps l (Y4 300 tm)).map fun tm'=>{σ with tm:=tm',ct:=512}|false=>none)
 |_,_=>none
def LI(st0 st:LS)(σ:AS S):Option (AS S):=(σ.rt[0]?).bind fun q=>(look q σ.ob).bind fun a=>match a.2 with
 |.loop r st1 tm=>(match LS.same st1 st0 with|true=>some {σ with ob:=(q,σ.ct+32,.loop r st tm)::gR [q] σ.ob,ct:=σ.ct+64}|false=>none)
 |_=>none
def exB:W4->Bool
 |.normal=>true
 |_=>false
def aaX:W4->LS
 |.normal=>.ready
 |e=>.done e
noncomputable def evY(c:cU S)(r:Nat)(ps:List Nat)(aS body:Code)(an:An)(x:HT S c.ls):Option (qX S c.outs):=
 match start tb c x with
 |some σ0=>(match ZB r ps σ0 with
  |some σ1=>Gx tb tt Φ fa aS an.l1 σ1 (qX S c.outs) (fun _ e' ex σ2=>match ex with
   |.normal=>(LI .ready .busy σ2).bind fun σ3=>Gx tb tt Φ fa body an.r1 σ3 (qX S c.outs) (fun _ e2 ex σ4=>(LI .busy (aaX ex) σ4).bind fun σ5=>
    (Ir fa.pre σ5).bind fun σ6=>(zl tb c.eW.length (.one (.tt (exB ex))) σ0 σ6 c.outs).bind fun y=>some (e2 y)) _ e'
   |_=>none) (qX S c.outs) id
  |none=>none)
 |none=>none
end
end E
end Go.Proofs.YtekpafdhgkocaaaGreat
