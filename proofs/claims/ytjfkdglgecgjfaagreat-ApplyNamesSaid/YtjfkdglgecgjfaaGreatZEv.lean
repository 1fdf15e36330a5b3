/- Part of the proof. -/
import Derived.Test.YtjfkdglgecgjfaaGreatZLift
namespace Go.Proofs.YtjfkdglgecgjfaaGreat
open Go.RowKit G
namespace E
inductive Co where
 |int (k:IntKind)
 |u8
 |bo
 |str
 |sl (c:Co)
 |st (i:Nat)
 |a8 (n:Nat)
 |ai (n:Nat) (k:IntKind)
 |mp (k v:Co)
 deriving DecidableEq,Inhabited
def T(S:Nat->Type):Co->Type
 |.int _=>Int
 |.u8=>UInt8
 |.bo=>Bool
 |.str=>List UInt8
 |.sl c=>List (T S c)
 |.st i=>S i
 |.a8 _=>Nat->UInt8
 |.ai _ _=>Nat->Int
 |.mp k v=>List (T S k×T S v)
def HL(S:Nat->Type):List Co->Type
 |[]=>Unit
 |c::cs=>T S c×HL S cs
def HT(S:Nat->Type):List Co->Type
 |[]=>Unit
 |[c]=>T S c
 |c::d::cs=>T S c×HT S (d::cs)
variable (S:Nat->Type)
inductive CV where
 |int (k:IntKind) (x:Int)
 |u8 (x:UInt8)
 |bo (b:Bool) (p:Prop) (d:Decidable p) (h:b=true↔p)
 |tt (b:Bool)
 |str (l:List UInt8)
 |sl (c:Co) (l:List (T S c))
 |KL (c:Co) (l:List (T S c))
 |rw(o:Nat) (c:Co) (l:List (T S c))
 |aw (o:Nat)
 |dx
 |a8 (n:Nat) (f:Nat->UInt8)
 |ai (n:Nat) (k:IntKind) (f:Nat->Int)
 |ptr (o off:Nat)
 |dM
 |el (c:Co) (x:T S c) (off:Nat)
 |Bg (o:Nat) (v:Nat) (c:Co) (x:T S c) (j:Int) (off:Nat)
 |Gw (o off n:Nat) (i:Int)
 |px (o off n:Nat) (i j:Int)
 |fn (f:Fn) (first caps:List CV)
 |ag (xs:List CV)
 |dI
 |u6
 |rS
 |yl (o:Nat)
 |na (e neg:Bool)
 |rz (o:Nat) (c:Co) (n:Int)
 |pt (o:Nat) (c:Co) (off n:Int)
 |mp (o:Nat)
 |KQ (o q:Nat)
 |JR (q:Nat)
 deriving Inhabited
inductive AV where
 |one (v:CV S)
 |agg (vs:List (CV S))
 |du (vs:List AV)
 deriving Inhabited
def AV.dU:AV S:=.du []
inductive IM where
 |normal
 |ret
 |exit (n:Nat)
inductive LS where
 |ready
 |busy
 |done (e:IM)
def LS.same:LS->LS->Bool
 |.ready,.ready=>true
 |.busy,.busy=>true
 |.done .normal,.done .normal=>true
 |.done .ret,.done .ret=>true
 |.done (.exit n),.done (.exit k)=>Nat.beq n k
 |_,_=>false
inductive AO where
 |box (T:TypeId) (cs:List (CV S))
 |row (e:TypeId) (c:Co)
 |arr (e:TypeId) (c:Co) (full:Bool) (l:List (T S c))
 |loop (r:Nat) (st:LS) (tm:List (Nat×Nat×AV S))
 |map (t:TypeId) (kc vc:Co) (l:List (T S kc×T S vc)) (hole:Option (T S kc×Nat))
 |kF (t et:TypeId) (kc c:Co) (l:List (T S kc×List (T S c))) (hole:Option (T S kc))
 |wb (t:TypeId) (kc:Co) (l:List (T S kc×CV S))
 |gi (t:TypeId) (kc vc:Co) (l:List (T S kc×T S vc)) (hole:Option (T S kc×Nat)) (q:Nat)
 |oM (kc:Co) (o:Nat) (st:Option (Option (T S kc)))
 deriving Inhabited
structure AS where
 tm:List (Nat×Nat×AV S)
 ob:List (Nat×Nat×AO S)
 ct:Nat
 fb:Nat
 rt:List Nat
structure SD(σ:Type) where
 fs:List Co
 to:σ->HL S fs
 of:HL S fs->σ
variable {S}
def look{α:Type}(t:Nat):List (Nat×α)->Option α
 |[]=>none
 |(u,x)::l=>match Nat.beq u t with|true=>some x|false=>look t l
def mq{α:Type}(t:Nat):List (Nat×α)->List (Nat×α)
 |[]=>[]
 |(u,x)::l=>match Nat.beq u t with|true=>l|false=>(u,x)::mq t l
inductive TD where
 |int (k:IntKind)
 |bool
 |str
 |ptr (e:TypeId)
 |slice (e:TypeId)
 |array (n:Nat) (e:TypeId)
 |struct (fs:List (TypeId×Nat×Nat))
 |func
 |iface
 |map (k v:TypeId)
 deriving Inhabited
variable (S)
structure TI where
 d:TD
 size:Nat
 bytes:Nat
 zero:List (CV S)
 co:Co:=.bo
 eq:Bool:=false
 deriving Inhabited
variable {S}
def dt:TD->Bool
 |.struct _=>true
 |.array _ _=>true
 |_=>false
def CV.n:CV S->Nat
 |.a8 n _=>n
 |.ai n _ _=>n
 |_=>1
def jE:AV S->Option (List (CV S))
 |.one v=>some [v]
 |.agg vs=>some vs
 |.du _=>none
def ku:Nat->List (CV S)->Option (List (CV S))
 |0,_=>some []
 |_+1,[]=>none
 |n+1,v::vs=>match Nat.ble v.n (n+1)with|true=>(ku (n+1-v.n) vs).map (v:: ·)|false=>none
def cutAt:Nat->List (CV S)->Option (List (CV S))
 |0,vs=>some vs
 |_+1,[]=>none
 |o+1,v::vs=>match Nat.ble v.n (o+1)with|true=>cutAt (o+1-v.n) vs|false=>none
def mM:Nat->List (CV S)->Option (CV S)
 |_,[]=>none
 |o,v::vs=>match Nat.ble v.n o with
  |true=>mM (o-v.n) vs
  |false=>match v with
   |.a8 _ f=>some (.u8 (f o))
   |.ai _ k f=>some (.int k (f o))
   |v=>some v
def Np(o n:Nat)(xs vs:List (CV S)):Option (List (CV S)):=
 (ku o vs).bind fun a=>(cutAt (o+n) vs).map fun b=>a++(xs++b)
def HI:Nat->CV S->List (CV S)->Option (List (CV S))
 |_,_,[]=>none
 |o,x,v::vs=>match Nat.ble v.n o with
  |true=>(HI (o-v.n) x vs).map (v:: ·)
  |false=>match v,x with
   |.a8 n f,.u8 y=>some (.a8 n (nC f o y)::vs)
   |.ai n k f,.int k' y=>match decEq k' k with|isTrue _=>some (.ai n k (nC f o y)::vs)|isFalse _=>none
   |.a8 _ _,_=>none
   |.ai _ _ _,_=>none
   |_,x=>some (x::vs)
def CA(vs:List (CV S)):Nat:=(vs.map CV.n).sum
variable (S) in
abbrev Tb:=(i:Nat)->SD S (S i)
variable (tb:Tb S)
def toCV:(c:Co)->T S c->CV S
 |.int k,x=>.int k x
 |.u8,x=>.u8 x
 |.bo,(b:Bool)=>.bo b (b=true) inferInstance Iff.rfl
 |.str,l=>.str l
 |.sl c,l=>.sl c l
 |.st _,_=>.rS
 |.a8 n,f=>.a8 n f
 |.ai n k,f=>.ai n k f
 |.mp _ _,_=>.rS
def toCVs:(cs:List Co)->HL S cs->List (CV S)
 |[],_=>[]
 |c::cs,h=>toCV c h.1::toCVs cs h.2
def IX:(c:Co)->T S c->List (CV S)
 |.st i,x=>toCVs (tb i).fs ((tb i).to x)
 |c,x=>[toCV c x]
def OH:(cs:List Co)->HL S cs->HL S cs->Bool
 |[],_,_=>true
 |.int _::cs,a,b=>DA a.1 b.1&&OH cs a.2 b.2
 |_::_,_,_=>false
def eN:(c:Co)->T S c->T S c->Bool
 |.int _=>DA
 |.str=>Iu
 |.st i=>fun x y=>OH (tb i).fs ((tb i).to x) ((tb i).to y)
 |_=>fun _ _=>false
def uS:Co->Bool
 |.int .u8=>false
 |.int _=>true
 |.str=>true
 |.st i=>(tb i).fs.all fun c=>match c with| .int .u8=>false| .int _=>true|_=>false
 |_=>false
def Ek:Co->Bool
 |.int _=>true
 |.u8=>true
 |.bo=>true
 |.str=>true
 |_=>false
def eC{a b c d:Co}(h:a=c)(k:b=d)(l:List (T S a×T S b)):List (T S c×T S d):=h▸k▸l
def sL{a b c d:Co}(h:a=c)(k:b=d)(l:List (T S a×List (T S b))):List (T S c×List (T S d)):=h▸k▸l
def ia{c d:Co}(h:c=d)(l:List (T S c)):List (T S d):=h▸l
def Fa:(c:Co)->CV S->Option (T S c)
 |.int k,.int k' x=>match decEq k k' with|isTrue _=>some x|isFalse _=>none
 |.u8,.u8 x=>some x
 |.bo,.bo b _ _ _=>some b
 |.bo,.tt b=>some b
 |.str,.str l=>some l
 |.sl c,.sl d l=>match decEq d c with|isTrue h=>some (ia h l)|isFalse _=>none
 |.sl c,.KL d l=>match decEq d c with|isTrue h=>some (ia h l)|isFalse _=>none
 |.sl c,.rw _ d l=>match decEq d c with|isTrue h=>some (ia h l)|isFalse _=>none
 |.sl _,.dx=>some []
 |.a8 n,.a8 n' f=>match Nat.beq n n'&&Nat.ble 1 n with|true=>some f|false=>none
 |.ai n k,.ai n' k' f=>match Nat.beq n n'&&Nat.ble 1 n,decEq k k' with|true,isTrue _=>some f|_,_=>none
 |_,_=>none
def wZ:(cs:List Co)->List (CV S)->Option (HL S cs×List (CV S))
 |[],vs=>some ((),vs)
 |_::_,[]=>none
 |c::cs,v::vs=>(Fa c v).bind fun x=>(wZ cs vs).map fun p=>((x,p.1),p.2)
def pk:(c:Co)->List (CV S)->Option (T S c×List (CV S))
 |.st i,vs=>(wZ (tb i).fs vs).map fun p=>((tb i).of p.1,p.2)
 |_,[]=>none
 |c,v::vs=>(Fa c v).map fun x=>(x,vs)
def tG(c:Co)(vs:List (CV S)):Option (T S c):=(pk tb c vs).bind fun p=>match p.2 with| []=>some p.1|_::_=>none
def KM(c:Co):CV S->Option (List (T S c)):=Fa (.sl c)
def num:CV S->Option (IntKind×Int)
 |.int k x=>match k with| .u8=>none|k=>some (k,x)
 |.u8 x=>some (.u8,(x.toNat:Int))
 |_=>none
def my(k:IntKind)(x:Int):CV S:=match k with| .u8=>.u8 (G.u8 x)|k=>.int k x
def K5(k:IntKind)(x:Int):CV S:=match k with| .u8=>.u8 (G.u8 x)|k=>.int k (k.wrap x)
def Jf(p:Prop)[d:Decidable p]:CV S:=.bo (decide p) p d (decide_eq_true_iff)
def Jc{α:Type}[DecidableEq α][BEq α][LawfulBEq α](a b:α):CV S:=.bo (a == b) (a=b) inferInstance beq_iff_eq
def Je{α:Type}[DecidableEq α][BEq α][LawfulBEq α](a b:α):CV S:=.bo (a !=b) (a≠b) inferInstance bne_iff_ne
def Jb(b:Bool):CV S:=.bo b (b=true) inferInstance Iff.rfl
def Jd(b:Bool):CV S:=.bo (!b) (b=false) inferInstance (by cases b<;>simp)
def bit:CV S->Option Bool
 |.bo b _ _ _=>some b
 |.tt b=>some b
 |_=>none
def isNil:CV S->Option Bool
 |.dM=>some true
 |.dI=>some true
 |.u6=>some true
 |.rS=>some true
 |.dx=>some true
 |.ptr _ _=>some false
 |.fn _ _ _=>some false
 |.rw _ _ (_::_)=>some false
 |_=>none
def zI:List (CV S)->List (CV S)->Option (PSigma fun p:Prop=>Decidable p)
 |[.int _ x],[.int _ y]=>some ⟨x=y,inferInstance⟩
 |[.u8 x],[.u8 y]=>some ⟨(x.toNat:Int)=(y.toNat:Int),inferInstance⟩
 |.int _ x::v::vs,.int _ y::w::ws=>(zI (v::vs) (w::ws)).map fun p=>⟨x=y/\p.1,@instDecidableAnd _ _ inferInstance p.2⟩
 |.u8 x::v::vs,.u8 y::w::ws=>(zI (v::vs) (w::ws)).map fun p=>⟨(x.toNat:Int)=(y.toNat:Int)/\p.1,@instDecidableAnd _ _ inferInstance p.2⟩
 |[v],[w]=>(bit v).bind fun x=>(bit w).map fun y=>⟨x=y,inferInstance⟩
 |v::v'::vs,w::w'::ws=>(bit v).bind fun x=>(bit w).bind fun y=>(zI (v'::vs) (w'::ws)).map fun p=>⟨x=y/\p.1,@instDecidableAnd _ _ inferInstance p.2⟩
 |_,_=>none
def kindOk:List (CV S)->List (CV S)->Bool
 |[],[]=>true
 |.int k _::z,.int k' _::v=>decide (k=k')&&kindOk z v
 |.u8 _::z,.u8 _::v=>kindOk z v
 |.tt _::z,.bo _ _ _ _::v=>kindOk z v
 |.tt _::z,.tt _::v=>kindOk z v
 |_,_=>false
def yc:Operand->Bool
 |.const (.int _ n)=>decide (0<n)
 |_=>false
def DQ:Operand->Bool
 |.const (.int _ n)=>decide (0<=n)
 |_=>false
section
variable {γ:Type}
def MS(v:CV S)(k:Bool->Option γ):Option γ:=match v with
 |.tt b=>k b
 |.bo _ p d _=>@ite _ p d (k true) (k false)
 |_=>none
def ka(op:BinOp)(kv kw:IntKind)(x z:Int)(y:Operand)(k:CV S->Option γ):Option γ:=
 match op with
 |.shl=>(match DQ y with|true=>k (my kv (B3 kv x z))|false=>(mC (0<=z)).bind fun _=>k (my kv (B3 kv x z)))
 |.shr=>(match DQ y with|true=>k (my kv (uM kv x z))|false=>(mC (0<=z)).bind fun _=>k (my kv (uM kv x z)))
 |op=>match decEq kv kw with
  |isFalse _=>none
  |isTrue _=>match op with
   |.lss=>k (Jf (x<z))
   |.leq=>k (Jf (x<=z))
   |.gtr=>k (Jf (x>z))
   |.geq=>k (Jf (x≥z))
   |.eql=>k (Jc x z)
   |.neq=>k (Je x z)
   |.add=>k (K5 kv (x+z))
   |.sub=>k (K5 kv (x-z))
   |.mul=>k (K5 kv (x*z))
   |.and=>k (my kv (Bs kv x z))
   |.or=>k (my kv (PH kv x z))
   |.xor=>k (my kv (Ew kv x z))
   |.andNot=>k (my kv (CX kv x z))
   |.quo=>(match yc y with|true=>k (K5 kv (Int.tdiv x z))|false=>(mC (z≠0)).bind fun _=>k (K5 kv (Int.tdiv x z)))
   |.rem=>match kv with
    |.u8=>none
    |kv=>(match yc y with|true=>k (.int kv (Int.tmod x z))|false=>(mC (z≠0)).bind fun _=>k (.int kv (Int.tmod x z)))
   |_=>none
def jc(op:BinOp)(a b:CV S)(k:CV S->Option γ):Option γ:=match op with
 |.eql=>k a
 |.neq=>k b
 |_=>none
def Mw(tt:TypeId->Option (TI S))(op:BinOp)(xT:TypeId)(a b:AV S)(k:CV S->Option γ):Option γ:=
 (tt xT).bind fun ti=>match ti.d,a,b with
 |.str,.one (.str x),.one (.str z)=>jc op (Jf (x=z)) (Jd (decide (x=z))) k
 |.bool,.one v,.one w=>(bit v).bind fun x=>(bit w).bind fun z=>jc op (Jc x z) (Je x z) k
 |.ptr _,.one .dM,.one .dM=>jc op (.tt true) (.tt false) k
 |.ptr _,.one (.ptr _ _),.one .dM=>jc op (.tt false) (.tt true) k
 |.ptr _,.one .dM,.one (.ptr _ _)=>jc op (.tt false) (.tt true) k
 |.func,.one .dI,.one .dI=>jc op (.tt true) (.tt false) k
 |.func,.one (.fn _ _ _),.one .dI=>jc op (.tt false) (.tt true) k
 |.slice _,.one .dx,.one .dx=>jc op (.tt true) (.tt false) k
 |.slice _,.one (.sl _ l),.one .dx=>jc op (.na l.isEmpty false) (.na l.isEmpty true) k
 |.slice _,.one (.rw _ _ (_::_)),.one .dx=>jc op (.tt false) (.tt true) k
 |.array n e,.agg [.a8 n1 f],.agg [.a8 n2 g]=>(tt e).bind fun ei=>match ei.d,Nat.beq n 32&&Nat.beq n1 32&&Nat.beq n2 32&&ti.eq with
  |.int .u8,true=>jc op (Jb (mX f g)) (Jd (mX f g)) k
  |_,_=>none
 |.struct _,.agg vs,.agg ws=>match ti.eq&&kindOk ti.zero vs&&kindOk ti.zero ws with
  |true=>(zI vs ws).bind fun p=>jc op (@Jf _ p.1 p.2) (Jd (@decide p.1 p.2)) k
  |false=>none
 |_,_,_=>none
def Eu(tt:TypeId->Option (TI S))(op:BinOp)(xT:TypeId)(y:Operand)(a b:AV S)(k:CV S->Option γ):Option γ:=
 match a,b with
 |.one v,.one w=>
  match num v,num w with
  |some (kv,x),some (kw,z)=>ka op kv kw x z y k
  |_,_=>Mw tt op xT a b k
 |_,_=>Mw tt op xT a b k
end
inductive CS where
 |zy (c:Co)
 |rw(o:Nat) (c:Co)
 |aw (o:Nat)
 |ptr (o off:Nat)
 |dM
 |dI
 |fn (f:FuncId) (first caps:List CS)
 |tt (b:Bool)
 |dx
 |yl (o:Nat)
 |PE (o:Nat)
 deriving Inhabited
inductive PS where
 |one (s:CS)
 |agg (l:List CS)
 |du (l:List PS)
 deriving Inhabited
inductive OS where
 |box (T:TypeId) (l:List CS)
 |row (e:TypeId) (c:Co)
 |arr (e:TypeId) (c:Co) (full:Bool)
 |loop (r:Nat) (st:LS) (FN:List (Nat×PS))
 |map (t:TypeId) (kc vc:Co)
 |kF (t et:TypeId) (kc c:Co)
 |gi (t:TypeId) (kc vc:Co) (q:Nat)
 |oM (kc:Co) (o:Nat)
 deriving Inhabited
variable (S) in
abbrev eh:=(c:Co)×T S c
def rk:CV S->AV S
 |.ag xs=>.agg xs
 |v=>.one v
def P8:CV S->Bool
 |.ag _=>false
 |_=>true
def Kk(v:CV S):Bool:=Nat.beq v.n 1
mutual
def CS.fill(ids:Nat->Nat):CS->List (eh S)->Option (List (CV S)×List (eh S))
 |.zy c,⟨c',x⟩::ds=>match decEq c' c with|isTrue h=>some (IX tb c (h▸x),ds)|isFalse _=>none
 |.rw o c,⟨c',x⟩::ds=>match decEq c' (.sl c)with|isTrue h=>some ([.rw (ids o) c (show List (T S c) from(h▸x:T S (.sl c)))],ds)|isFalse _=>none
 |.zy _,[]=>none
 |.rw _ _,[]=>none
 |.aw o,ds=>some ([.aw (ids o)],ds)
 |.ptr o off,ds=>some ([.ptr (ids o) off],ds)
 |.dM,ds=>some ([.dM],ds)
 |.dI,ds=>some ([.dI],ds)
 |.tt b,ds=>some ([.tt b],ds)
 |.dx,ds=>some ([.dx],ds)
 |.yl o,ds=>some ([.yl (ids o)],ds)
 |.PE o,ds=>some ([.mp (ids o)],ds)
 |.fn f xs ys,ds=>(CS.dc ids xs ds).bind fun p=>(CS.dc ids ys p.2).bind fun q=>match p.1.all Kk&&q.1.all Kk with|true=>some ([.fn (.func f) p.1 q.1],q.2)|false=>none
def CS.dc(ids:Nat->Nat):List CS->List (eh S)->Option (List (CV S)×List (eh S))
 |[],ds=>some ([],ds)
 |s::l,ds=>(CS.fill ids s ds).bind fun p=>(CS.dc ids l p.2).map fun q=>(p.1++q.1,q.2)
end
mutual
def PS.fill(ids:Nat->Nat):PS->List (eh S)->Option (AV S×List (eh S))
 |.one s,ds=>(CS.fill tb ids s ds).bind fun p=>match p.1 with| [v]=>some (.one v,p.2)|_=>none
 |.agg l,ds=>(CS.dc tb ids l ds).map fun p=>(.agg p.1,p.2)
 |.du l,ds=>(PS.dc ids l ds).map fun p=>(.du p.1,p.2)
def PS.dc(ids:Nat->Nat):List PS->List (eh S)->Option (List (AV S)×List (eh S))
 |[],ds=>some ([],ds)
 |s::l,ds=>(PS.fill ids s ds).bind fun p=>(PS.dc ids l p.2).map fun q=>(p.1::q.1,q.2)
end
def nW(ids:Nat->Nat)(bC:Nat):List (Nat×PS)->List (eh S)->Option (List (Nat×Nat×AV S)×List (eh S))
 |[],ds=>some ([],ds)
 |(t,s)::l,ds=>(PS.fill tb ids s ds).bind fun p=>(nW ids (bC+1) l p.2).map fun q=>((t,bC,p.1)::q.1,q.2)
def OS.fill(ids:Nat->Nat):OS->List (eh S)->Option (AO S×List (eh S))
 |.box T l,ds=>(CS.dc tb ids l ds).map fun p=>(.box T p.1,p.2)
 |.row e c,ds=>some (.row e c,ds)
 |.arr e c full,⟨c',x⟩::ds=>match decEq c' (.sl c)with|isTrue h=>some (.arr e c full (show List (T S c) from(h▸x:T S (.sl c))),ds)|isFalse _=>none
 |.arr _ _ _,[]=>none
 |.loop r st FN,ds=>(nW tb ids 300 FN ds).map fun p=>(.loop r st p.1,p.2)
 |.map t kc vc,⟨c',x⟩::ds=>match decEq c' (.mp kc vc)with|isTrue h=>some (.map t kc vc (show List (T S kc×T S vc) from(h▸x:T S (.mp kc vc))) none,ds)|isFalse _=>none
 |.map _ _ _,[]=>none
 |.kF t et kc c,⟨c',x⟩::ds=>match decEq c' (.mp kc (.sl c))with|isTrue h=>some (.kF t et kc c (show List (T S kc×List (T S c)) from(h▸x:T S (.mp kc (.sl c)))) none,ds)|isFalse _=>none
 |.kF _ _ _ _,[]=>none
 |.gi t kc vc q,⟨c',x⟩::ds=>match decEq c' (.mp kc vc)with|isTrue h=>some (.gi t kc vc (show List (T S kc×T S vc) from(h▸x:T S (.mp kc vc))) none (ids q),ds)|isFalse _=>none
 |.gi _ _ _ _,[]=>none
 |.oM kc o,ds=>some (.oM kc (ids o) (some none),ds)
def OS.dc(ids:Nat->Nat):List OS->List (eh S)->Option (List (AO S)×List (eh S))
 |[],ds=>some ([],ds)
 |s::l,ds=>(OS.fill tb ids s ds).bind fun p=>(OS.dc ids l p.2).map fun q=>(p.1::q.1,q.2)
def KX(mp:List (Nat×Nat))(o q:Nat):Option (List (Nat×Nat)):=match look o mp with
 |some r=>match Nat.beq r q with|true=>some mp|false=>none
 |none=>match(mp.any fun p=>Nat.beq p.2 q)||!Nat.ble o 200 with|true=>none|false=>some ((o,q)::mp)
variable (S) in
abbrev Tk:=List (eh S)×List (CV S)×List (Nat×Nat)
mutual
def CS.take(mp:List (Nat×Nat)):CS->List (CV S)->Option (Tk S)
 |.zy c,vs=>(pk tb c vs).map fun p=>([⟨c,p.1⟩],p.2,mp)
 |.rw o c,.rw q d l::vs=>match decEq d c with|isTrue h=>(KX mp o q).map fun mp=>([⟨.sl c,ia h l⟩],vs,mp)|isFalse _=>none
 |.aw o,.aw q::vs=>(KX mp o q).map fun mp=>([],vs,mp)
 |.ptr o off,.ptr q off'::vs=>match Nat.beq off off' with|true=>(KX mp o q).map fun mp=>([],vs,mp)|false=>none
 |.dM,.dM::vs=>some ([],vs,mp)
 |.dI,.dI::vs=>some ([],vs,mp)
 |.tt b,.tt c::vs=>(match b == c with|true=>some ([],vs,mp)|false=>none)
 |.dx,.dx::vs=>some ([],vs,mp)
 |.yl o,.yl q::vs=>(KX mp o q).map fun mp=>([],vs,mp)
 |.PE o,.mp q::vs=>(KX mp o q).map fun mp=>([],vs,mp)
 |.fn f xs ys,.fn (.func g) first caps::vs=>match Nat.beq f g&&(first.all P8&&caps.all P8)with
  |true=>(CS.takes mp xs first).bind fun p=>match p.2.1 with
   |[]=>(CS.takes p.2.2 ys caps).bind fun q=>match q.2.1 with| []=>some (p.1++q.1,vs,q.2.2)|_::_=>none
   |_::_=>none
  |false=>none
 |_,_=>none
def CS.takes(mp:List (Nat×Nat)):List CS->List (CV S)->Option (Tk S)
 |[],vs=>some ([],vs,mp)
 |s::l,vs=>(CS.take mp s vs).bind fun p=>(CS.takes p.2.2 l p.2.1).map fun q=>(p.1++q.1,q.2.1,q.2.2)
end
mutual
def PS.take(mp:List (Nat×Nat)):PS->AV S->Option (List (eh S)×List (Nat×Nat))
 |.one s,.one v=>(CS.take tb mp s [v]).bind fun p=>match p.2.1 with| []=>some (p.1,p.2.2)|_::_=>none
 |.agg l,.agg vs=>(CS.takes tb mp l vs).bind fun p=>match p.2.1 with| []=>some (p.1,p.2.2)|_::_=>none
 |.du l,.du vs=>PS.takes mp l vs
 |_,_=>none
def PS.takes(mp:List (Nat×Nat)):List PS->List (AV S)->Option (List (eh S)×List (Nat×Nat))
 |[],[]=>some ([],mp)
 |s::l,v::vs=>(PS.take mp s v).bind fun p=>(PS.takes p.2 l vs).map fun q=>(p.1++q.1,q.2)
 |_,_=>none
end
def iC(tm:List (Nat×Nat×AV S))(mp:List (Nat×Nat)):List (Nat×PS)->Option (List (eh S)×List (Nat×Nat))
 |[]=>some ([],mp)
 |(t,s)::l=>(look t tm).bind fun a=>(PS.take tb mp s a.2).bind fun p=>(iC tm p.2 l).map fun r=>(p.1++r.1,r.2)
def OS.take(mp:List (Nat×Nat)):OS->AO S->Option (List (eh S)×List (Nat×Nat))
 |.box T l,.box T' vs=>match Nat.beq T T' with
  |true=>(CS.takes tb mp l vs).bind fun p=>match p.2.1 with| []=>some (p.1,p.2.2)|_::_=>none
  |false=>none
 |.row e c,.row e' c'=>match Nat.beq e e',decEq c c' with|true,isTrue _=>some ([],mp)|_,_=>none
 |.arr e c full,.arr e' c' full' l=>match Nat.beq e e',decEq c' c,!full||full' with|true,isTrue h,true=>some ([⟨.sl c,ia h l⟩],mp)|_,_,_=>none
 |.loop r st FN,.loop r' st' tm=>match Nat.beq r r'&&LS.same st st' with|true=>iC tb tm mp FN|false=>none
 |.map t kc vc,.map t' kc' vc' l none=>match Nat.beq t t',decEq kc' kc,decEq vc' vc with|true,isTrue h,isTrue k=>some ([⟨.mp kc vc,eC h k l⟩],mp)|_,_,_=>none
 |.kF t et kc c,.kF t' et' kc' c' l none=>match Nat.beq t t'&&Nat.beq et et',decEq kc' kc,decEq c' c with|true,isTrue h,isTrue k=>some ([⟨.mp kc (.sl c),sL h k l⟩],mp)|_,_,_=>none
 |.gi t kc vc q,.gi t' kc' vc' l none q'=>match Nat.beq t t',decEq kc' kc,decEq vc' vc with|true,isTrue h,isTrue k=>(KX mp q q').map fun mp=>([⟨.mp kc vc,eC h k l⟩],mp)|_,_,_=>none
 |.oM kc o,.oM kc' o' _=>match decEq kc' kc with|isTrue _=>(KX mp o o').map fun mp=>([],mp)|isFalse _=>none
 |_,_=>none
def OS.takes(ob:List (Nat×Nat×AO S))(mp:List (Nat×Nat)):Nat->List OS->Option (List (eh S)×List (Nat×Nat))
 |_,[]=>some ([],mp)
 |o,s::l=>(look o mp).bind fun q=>(look q ob).bind fun a=>(OS.take tb mp s a.2).bind fun p=>(OS.takes ob p.2 (o+1) l).map fun r=>(p.1++r.1,r.2)
def kC:(ls:List Co)->HT S ls->List (eh S)
 |[],_=>[]
 |[c],x=>[⟨c,x⟩]
 |c::d::cs,x=>⟨c,x.1⟩::kC (d::cs) x.2
def mz:(ls:List Co)->List (eh S)->Option (HT S ls)
 |[],[]=>some ()
 |[c],[⟨c',x⟩]=>match decEq c' c with|isTrue h=>some (h▸x)|isFalse _=>none
 |c::d::cs,⟨c',x⟩::ds=>match decEq c' c with|isTrue h=>(mz (d::cs) ds).map fun y=>(h▸x,y)|isFalse _=>none
 |_,_=>none
def xa{α:Type}(l:List α):List Nat->Option (List α)
 |[]=>some []
 |i::is=>(l[i]?).bind fun x=>(xa l is).map (x:: ·)
def ic(pm:List Nat)(ds:List (eh S)):Option (List (eh S)):=match pm with
 |[]=>some ds
 |_::_=>match Nat.beq ds.length pm.length with|true=>xa ds pm|false=>none
def EJ:List Nat->List Nat->Bool
 |[],[]=>true
 |x::l,y::l'=>Nat.beq x y&&EJ l l'
 |_,_=>false
def AB(pm bk:List Nat):Bool:=match pm,bk with
 |[],[]=>true
 |_::_,_::_=>Nat.beq pm.length bk.length&&(match xa pm bk with|some l=>EJ l (List.range bk.length)|none=>false)
 |_,_=>false
inductive Mb where
 |own (e:TypeId) (c:Co)
 |arr (e:TypeId) (c:Co)
 |QM
structure JA where
 FN:List (Nat×PS):=[]
 dP:List OS:=[]
 ls:List Co:=[]
 pm:List Nat:=[]
 bk:List Nat:=[]
 fx:List (Nat×Nat):=[]
 gone:List Nat:=[]
 kill:List Nat:=[]
 pre:List (Nat×Nat×Mb):=[]
 early:Bool:=false
 LC:AB pm bk=true:=by rfl
 vY:(Nat.ble FN.length 190&&Nat.ble dP.length 190)=true:=by rfl
def has(t:Nat):List Nat->Bool
 |[]=>false
 |u::l=>match Nat.beq u t with|true=>true|false=>has t l
def lU(J:JA):List (Nat×Nat×AV S)->List (Nat×Nat×AV S)
 |[]=>[]
 |(t,x)::l=>match has t J.kill||J.FN.any fun p=>Nat.beq p.1 t with|true=>lU J l|false=>(t,x)::lU J l
mutual
def CV.ids:CV S->List Nat
 |.rw o _ _=>[o]
 |.aw o=>[o]
 |.ptr o _=>[o]
 |.Bg o _ _ _ _ _=>[o]
 |.Gw o _ _ _=>[o]
 |.px o _ _ _ _=>[o]
 |.yl o=>[o]
 |.mp o=>[o]
 |.KQ o _=>[o]
 |.JR o=>[o]
 |.rz o _ _=>[o]
 |.pt o _ _ _=>[o]
 |.fn _ xs ys=>CV.x9 xs++CV.x9 ys
 |.ag xs=>CV.x9 xs
 |_=>[]
def CV.x9:List (CV S)->List Nat
 |[]=>[]
 |v::vs=>CV.ids v++CV.x9 vs
end
mutual
def AV.ids:AV S->List Nat
 |.one v=>v.ids
 |.agg vs=>CV.x9 vs
 |.du vs=>AV.x9 vs
def AV.x9:List (AV S)->List Nat
 |[]=>[]
 |v::vs=>AV.ids v++AV.x9 vs
end
def AO.ids:AO S->List Nat
 |.box _ vs=>CV.x9 vs
 |.gi _ _ _ _ _ q=>[q]
 |.oM _ o _=>[o]
 |_=>[]
def Bo(xs ys:List Nat):List Nat:=xs.foldl (fun l x=>match has x l with|true=>l|false=>x::l) ys
def HO(ob:List (Nat×Nat×AO S)):Nat->List Nat->List Nat
 |0,l=>l
 |n+1,l=>HO ob n (l.foldl (fun r x=>match look x ob with|some a=>Bo a.2.ids r|none=>r) l)
def uO(r:List Nat):List (Nat×Nat×AO S)->List (Nat×Nat×AO S)
 |[]=>[]
 |(q,x)::l=>match has q r with|true=>(q,x)::uO r l|false=>uO r l
def cp(rm:List Nat):List (Nat×Nat×AO S)->List (Nat×Nat×AO S)
 |[]=>[]
 |(q,x)::l=>match has q rm with|true=>cp rm l|false=>(q,x)::cp rm l
def qC(J:JA)(σ:AS S):List (Nat×Nat×AO S):=
 cp ((J.fx.filter fun r=>Nat.ble (r.1+1) J.dP.length).map (·.2)++J.gone) (uO (HO σ.ob 4 (Bo σ.rt ((lU J σ.tm).foldl (fun r x=>Bo x.2.2.ids r) []))) σ.ob)
def yN(tm:List (Nat×Nat×AV S)):List (Nat×Nat×AV S)->Bool
 |[]=>true
 |(t,x)::l=>(match look t tm with|some y=>Nat.beq x.1 y.1|none=>false)&&yN tm l
def yK(ob:List (Nat×Nat×AO S)):List (Nat×Nat×AO S)->Bool
 |[]=>true
 |(t,x)::l=>(match look t ob with|some y=>Nat.beq x.1 y.1|none=>false)&&yK ob l
def sf(mp:List (Nat×Nat)):Nat->Nat->List Nat
 |_,0=>[]
 |o,n+1=>match look o mp with|some q=>q::sf mp (o+1) n|none=>sf mp (o+1) n
def dN:List Nat->Bool
 |[]=>true
 |x::l=>match has x l with|true=>false|false=>dN l
def place(σ:AS S)(t i:Nat):Option (CV S):=match look t σ.tm with
 |some (_,.one v)=>(match i with
  |0=>some v
  |i+1=>match v with| .ptr o _=>(match look o σ.ob with|some (_,.box _ cs)=>cs[i]?|_=>none)|_=>none)
 |some (_,.agg vs)=>(match i with|0=>none|i+1=>vs[i]?)
 |_=>none
def nD(σ:AS S)(t i:Nat)(w:CV S):AS S:=match look t σ.tm with
 |some (bC,.one v)=>(match i with
  |0=>{σ with tm:=(t,bC,.one w)::mq t σ.tm,ct:=σ.ct+64}
  |i+1=>match v with| .ptr o _=>(match look o σ.ob with|some (_,.box T cs)=>{σ with ob:=(o,σ.ct+32,.box T (cs.set i w))::cp [o] σ.ob,ct:=σ.ct+64}|_=>σ)|_=>σ)
 |some (bC,.agg vs)=>(match i with|0=>σ|i+1=>{σ with tm:=(t,bC,.agg (vs.set i w))::mq t σ.tm,ct:=σ.ct+64})
 |_=>σ
def zi(σ:AS S)(q:Nat)(a:AO S):AS S:={σ with ob:=(q,σ.ct+32,a)::σ.ob,ct:=σ.ct+64}
def HF(σ:AS S)(t i:Nat)(k:Mb):Option (AS S):=match place σ t i,k with
 |some .dx,.own e c=>some (zi (nD {σ with ct:=σ.ct+64} t i (.rw (σ.ct+1) c [])) (σ.ct+1) (.row e c))
 |some .dx,.arr e c=>some (zi (nD {σ with ct:=σ.ct+64} t i (.aw (σ.ct+1))) (σ.ct+1) (.arr e c true []))
 |some (.aw o),.QM=>(look o σ.ob).bind fun a=>match a.2 with
  |.arr _ c _ l=>(match place {σ with ob:=cp [o] σ.ob} t i with
   |some (.aw o')=>(match Nat.beq o' o with|true=>some (nD {σ with ob:=cp [o] σ.ob} t i (.sl c l))|false=>none)
   |_=>none)
  |_=>none
 |some _,_=>some σ
 |none,_=>none
def AE:List (Nat×Nat×Mb)->AS S->Option (AS S)
 |[],σ=>some σ
 |(t,i,k)::l,σ=>(HF σ t i k).bind (AE l)
def pack(J:JA)(σ0 σ:AS S):Option (HT S J.ls):=(AE J.pre σ).bind fun σ=>
 match yN σ.tm (lU J σ0.tm)&&yK σ.ob (qC J σ0)&&Nat.beq σ.fb σ0.fb&&(J.fx.all fun r=>(look r.2 σ0.ob).isSome&&Nat.ble r.1 200)&&dN (J.fx.map (·.2))with
 |true=>(iC tb σ.tm J.fx J.FN).bind fun p=>(OS.takes tb σ.ob p.2 0 J.dP).bind fun q=>
  match dN (sf q.2 0 J.dP.length++(qC J σ0).map (·.1))with
  |true=>(ic J.pm (p.1++q.1)).bind (mz J.ls)
  |false=>none
 |false=>none
def Cc(ids:Nat->Nat)(o v:Nat):List (AO S)->List (Nat×Nat×AO S)
 |[]=>[]
 |a::l=>(ids o,v,a)::Cc ids (o+1) (v+1) l
def JA.ids(J:JA)(ct o:Nat):Nat:=match look o J.fx with|some q=>q|none=>ct+o
def Ao(v:Nat):List (AO S)->List (Nat×Nat×AO S)
 |[]=>[]
 |a::l=>(v,v,a)::Ao (v+1) l
def unpack(J:JA)(σ0:AS S)(z:HT S J.ls):Option (AS S):=
 (ic J.bk (kC J.ls z)).bind fun ds=>
 (nW tb (J.ids σ0.ct) (σ0.ct+64) J.FN ds).bind fun p=>
 (OS.dc tb (J.ids σ0.ct) J.dP p.2).bind fun q=>
 some {σ0 with tm:=p.1++lU J σ0.tm,ob:=Cc (J.ids σ0.ct) 0 σ0.ct q.1++qC J σ0,ct:=σ0.ct+256}
inductive KS where
 |kept
 |now (s:OS)
 |gone
structure Out where
 out:PS
 dQ:List KS:=[]
 oV:List Co
 QD:List Nat:=[]
 yZ:List Nat:=[]
 Qb:AB QD yZ=true:=by rfl
 vY:Nat.ble dQ.length 30=true:=by rfl
variable (S) in
def ig:List Out->Type
 |[]=>Empty
 |[o]=>HT S o.oV
 |o::p::os=>HT S o.oV⊕ig (p::os)
def N9{γ:Type}(k:(o:Out)->HT S o.oV->Option γ):(os:List Out)->ig S os->Option γ
 |[],_=>none
 |[o],y=>k o y
 |o::p::os,y=>@Sum.elim (HT S o.oV) (ig S (p::os)) (Option γ) (k o) (N9 k (p::os)) y
def I2{γ:Type}(os:List Out)(y:ig S os)(k:(o:Out)->HT S o.oV->Option γ):Option γ:=N9 k os y
def tV:(os:List Out)->ig S os->((o:Out)->HT S o.oV->Prop)->Prop
 |[],_,_=>False
 |[o],y,p=>p o y
 |o::_::_,Sum.inl z,q=>q o z
 |_::p::os,Sum.inr z,q=>tV (p::os) z q
variable (S) in
structure jr where
 f:FuncId
 ins:List PS
 dP:List OS:=[]
 ls:List Co
 pm:List Nat:=[]
 bk:List Nat:=[]
 outs:List Out
 LC:AB pm bk=true:=by rfl
 vY:(Nat.ble dP.length 30&&outs.all fun o=>Nat.ble dP.length o.dQ.length)=true:=by rfl
 yO:HT S ls->Option (ig S outs)
variable (S) in
structure NC where
 f:FuncId
 ins:List PS
 dP:List OS:=[]
 ls:List Co
 pm:List Nat:=[]
 bk:List Nat:=[]
 out:Out
 LC:AB pm bk=true:=by rfl
 vY:(Nat.ble dP.length 30&&Nat.ble dP.length out.dQ.length)=true:=by rfl
 KH:(γ:Type)->(HT S out.oV->Option γ)->HT S ls->Option γ
variable (S) in
structure ek where
 v:AV S
 rd:List Nat:=[]
 rm:List Nat:=[]
 add:List (Nat×AO S):=[]
def val(v:CV S):ek S:={v:=.one v}
def OS.outs(ids:Nat->Nat):Nat->List KS->List (eh S)->Option (List (Nat×AO S))
 |_,[],[]=>some []
 |_,[],_::_=>none
 |o,.now s::l,ds=>(OS.fill tb ids s ds).bind fun p=>(OS.outs ids (o+1) l p.2).map fun q=>(ids o,p.1)::q
 |o,_::l,ds=>OS.outs ids (o+1) l ds
def jC(mp:List (Nat×Nat))(ct:Nat)(o:Nat):Nat:=match look o mp with|some q=>q|none=>ct+1+o
def KS.PY:KS->Bool
 |.kept=>true
 |_=>false
def dk(mp:List (Nat×Nat))(k:Bool):Nat->List KS->List Nat
 |_,[]=>[]
 |o,s::l=>match look o mp with
  |some q=>match s.PY == k with|true=>q::dk mp k (o+1) l|false=>dk mp k (o+1) l
  |none=>dk mp k (o+1) l
variable (S) in
structure FA where
 Mg:List TypeId:=[]
 lits:List TypeId:=[]
 parts:List TypeId:=[]
 takes:List TypeId:=[]
 pre:List (Nat×Nat×Mb):=[]
 fn:Nat:=0
 rd:Bool:=false
 nd:List (NC S):=[]
 deriving Inhabited
def Qp(r:Nat):Nat:=1000000+r
def Jh(b:Bool):Option Unit:=match b with|true=>some ()|false=>none
section
variable {γ:Type}(tt:TypeId->Option (TI S))(Φ:List (jr S))(fa:FA S)
def jD(f:FuncId)(args:List (AV S))(ob:List (Nat×Nat×AO S))(ct:Nat)(k:ek S->Option γ):List (jr S)->Option γ
 |[]=>none
 |c::cs=>match Nat.beq c.f f with
  |false=>jD f args ob ct k cs
  |true=>match(PS.takes tb [] c.ins args).bind fun p=>(OS.takes tb ob p.2 0 c.dP).bind fun q=>(ic c.pm (p.1++q.1)).bind fun ds=>(mz c.ls ds).map fun x=>(x,q.2)with
   |none=>jD f args ob ct k cs
   |some (x,mp)=>(c.yO x).bind fun y=>I2 c.outs y fun o z=>
    match(Jh (mp.all fun p=>Nat.ble (p.1+1) c.dP.length)).bind fun _=>(ic o.yZ (kC o.oV z)).bind fun ds=>(PS.fill tb (jC mp ct) o.out ds).bind fun p=>(OS.outs tb (jC mp ct) 0 o.dQ p.2).map fun l=>(p.1,l)with
    |some (v,l)=>k {v:=v,rd:=dk mp true 0 o.dQ,rm:=dk mp false 0 o.dQ,add:=l}
    |none=>none
def gJ(f:FuncId)(args:List (AV S))(ob:List (Nat×Nat×AO S))(ct:Nat)(k:ek S->Option γ):List (NC S)->Option γ
 |[]=>none
 |c::cs=>match Nat.beq c.f f with
  |false=>gJ f args ob ct k cs
  |true=>match(PS.takes tb [] c.ins args).bind fun p=>(OS.takes tb ob p.2 0 c.dP).bind fun q=>(ic c.pm (p.1++q.1)).bind fun ds=>(mz c.ls ds).map fun x=>(x,q.2)with
   |none=>gJ f args ob ct k cs
   |some (x,mp)=>(Jh ((mp.all fun p=>Nat.ble (p.1+1) c.dP.length)&&dN (dk mp true 0 c.out.dQ++dk mp false 0 c.out.dQ))).bind fun _=>c.KH γ (fun z=>
    match(ic c.out.yZ (kC c.out.oV z)).bind fun ds=>(PS.fill tb (jC mp ct) c.out.out ds).bind fun p=>(OS.outs tb (jC mp ct) 0 c.out.dQ p.2).map fun l=>(p.1,l)with
    |some (v,l)=>k {v:=v,rd:=dk mp true 0 c.out.dQ,rm:=dk mp false 0 c.out.dQ,add:=l}
    |none=>none) x
def OW(o:Oper)(xs:List (AV S)):Option (FuncId×List (AV S)):=match o.op with
 |.call c=>(match c.callee,xs with
  |.value _,.one (.fn (.func f) first caps)::args=>(match(fa.nd.any fun c=>Nat.beq c.f f)&&Nat.ble f 999999 with|true=>some (f,first.map rk++args++caps.map rk)|false=>none)
  |_,_=>none)
 |_=>none
def J6(sq:Bool)(o:Oper)(xs:List (AV S)):Option (FuncId×List (AV S)):=match sq with
 |true=>OW fa o xs
 |false=>none
def dY(t:TypeId):Option (TypeId×Co):=(tt t).bind fun i=>match i.d,i.co with| .slice e,.sl c=>some (e,c)|_,_=>none
def n6(i:TI S)(vs:Option (List (CV S)))(one:Option (CV S))(rd:List Nat)(k:ek S->Option γ):Option γ:=match dt i.d with
 |true=>vs.bind fun vs=>k {v:=.agg vs,rd:=rd}
 |false=>one.bind fun v=>k {v:=.one v,rd:=rd}
def wR(t:TypeId)(v:CV S)(ob:List (Nat×Nat×AO S))(k:ek S->Option γ):Option γ:=
 (tt t).bind fun i=>match v with
 |.ptr o off=>(look o ob).bind fun a=>match a.2 with
  |.box _ cs=>n6 i ((cutAt off cs).bind (ku i.size)) (mM off cs) [o] k
  |_=>none
 |.el c x off=>n6 i ((cutAt off (IX tb c x)).bind (ku i.size)) (mM off (IX tb c x)) [] k
 |.Bg o v c x _ off=>(look o ob).bind fun a=>match Nat.beq a.1 v with
  |true=>n6 i ((cutAt off (IX tb c x)).bind (ku i.size)) (mM off (IX tb c x)) [o] k
  |false=>none
 |.Gw o off n j=>(look o ob).bind fun a=>match a.2,dt i.d with
  |.box _ cs,false=>(cutAt off cs).bind fun cs=>match cs with
   |.a8 n' f::_=>match Nat.beq n n' with|true=>k {v:=.one (.u8 (lH f j)),rd:=[o]}|false=>none
   |.ai n' kk f::_=>match Nat.beq n n' with|true=>k {v:=.one (.int kk (lH f j)),rd:=[o]}|false=>none
   |_=>none
  |_,_=>none
 |_=>none
def pG:Nat->CV S->List (CV S)->Option (List (CV S))
 |_,_,[]=>none
 |0,x,_::vs=>some (x::vs)
 |o+1,x,v::vs=>match Nat.ble v.n (o+1)with|true=>(pG (o+1-v.n) x vs).map (v:: ·)|false=>none
def HM(o n:Nat)(xs vs:List (CV S)):Option (List (CV S)):=match Nat.beq (CA xs) n with
 |true=>(match xs,Nat.beq n 1 with| [x],true=>HI o x vs|xs,_=>Np o n xs vs)
 |false=>none
def sA(t:TypeId)(p:CV S)(a:AV S)(ob:List (Nat×Nat×AO S))(k:ek S->Option γ):Option γ:=
 (tt t).bind fun i=>(jE a).bind fun xs=>
 match p with
 |.ptr o off=>(look o ob).bind fun b=>match b.2 with
  |.box T cs=>(HM off i.size xs cs).bind fun cs'=>k {v:=AV.dU S,rm:=[o],add:=[(o,.box T cs')]}
  |_=>none
 |.Bg o v c x j off=>(look o ob).bind fun b=>match Nat.beq b.1 v with
  |true=>match b.2 with
   |.arr e c' full l=>(HM off i.size xs (IX tb c x)).bind fun cs'=>(tG tb c' cs').bind fun u=>
    k {v:=AV.dU S,rm:=[o],add:=[(o,.arr e c' full (l.set j.toNat u))]}
   |_=>none
  |false=>none
 |.Gw o off n j=>(look o ob).bind fun b=>match b.2,Nat.beq i.size 1 with
  |.box T cs,true=>(cutAt off cs).bind fun cs1=>(match cs1,xs with
   |.a8 n' f::_,[.u8 y]=>(match Nat.beq n n' with|true=>pG off (.a8 n' (nC f j y)) cs|false=>none)
   |.ai n' kk f::_,[.int k' y]=>(match Nat.beq n n',decEq k' kk with|true,isTrue _=>pG off (.ai n' kk (nC f j y)) cs|_,_=>none)
   |_,_=>none).bind fun cs'=>k {v:=AV.dU S,rm:=[o],add:=[(o,.box T cs')]}
  |_,_=>none
 |_=>none
def idxOf(v:AV S):Option Int:=match v with| .one v=>(num v).map (·.2)|_=>none
def rK(t:TypeId)(y:Operand)(v:CV S)(i:Int)(ob:List (Nat×Nat×AO S))(k:ek S->Option γ):Option γ:=
 match v with
 |.ptr o off=>(tt t).bind fun ti=>match ti.d with
  |.array n e=>(tt e).bind fun ei=>match Nat.beq ei.size 1 with
   |true=>(match y with
    |.const (.int _ j)=>(match decide (0<=j)&&decide (j<n)with|true=>k (val (.ptr o (off+j.toNat)))|false=>none)
    |_=>(mC (0<=i/\i<n)).bind fun _=>k (val (.Gw o off n i)))
   |false=>none
  |_=>none
 |v=>(dY tt t).bind fun ec=>match v with
  |.aw o=>(look o ob).bind fun a=>match a.2 with
   |.arr _ c' _ l=>(match decEq c' ec.2 with
    |isTrue _=>(idx l i).bind fun x=>k {v:=.one (.Bg o a.1 c' x i 0),rd:=[o]}
    |isFalse _=>none)
   |_=>none
  |v=>(KM ec.2 v).bind fun l=>(idx l i).bind fun x=>k (val (.el ec.2 x 0))
def mc:Option Operand->List (AV S)->Option (Option Int×List (AV S))
 |none,vs=>some (none,vs)
 |some _,v::vs=>(idxOf v).map fun i=>(some i,vs)
 |some _,[]=>none
def MV:CV S->Bool
 |.dx=>true
 |_=>false
def MX:Option Int->Option Int->Option Int->Bool
 |none,some _,none=>true
 |_,_,_=>false
def Oo(c:Co)(v:CV S)(l:List (T S c)):CV S:=match v with
 |.rw o d _=>(match decEq d c with|isTrue _=>.rw o c l|isFalse _=>.sl c l)
 |_=>.sl c l
def pL(t:TypeId)(v:CV S)(lo hi mx:Option Int)(ob:List (Nat×Nat×AO S))(ct:Nat)(k:ek S->Option γ):Option γ:=
 (dY tt t).bind fun ec=>match v with
 |.aw o=>(look o ob).bind fun a=>match a.2,lo,hi,mx with
  |.arr e c _ l,some i,none,none=>(match decEq c ec.2 with
   |isTrue _=>(mi l i).bind fun l'=>k {v:=.one (.aw (ct+1)),rm:=[o],add:=[(ct+1,.arr e c false l')]}
   |isFalse _=>none)
  |.arr e c full l,none,some j,none=>(match decEq c ec.2 with
   |isTrue _=>(ta l j).bind fun l'=>k {v:=.one (.aw (ct+1)),rm:=[o],add:=[(ct+1,.arr e c full l')]}
   |isFalse _=>none)
  |_,_,_,_=>none
 |.rz o c _=>(match lo,hi,mx with
  |none,some j,none=>(match decide (j=0)with|true=>k {v:=.one (.rw o c []),rd:=[o]}|false=>none)
  |_,_,_=>none)
 |v=>match MV v&&MX lo hi mx with
  |true=>(match decide (hi=some 0)with|true=>k (val .dx)|false=>none)
  |false=>(KM ec.2 v).bind fun l=>match lo,hi,mx with
  |some i,none,none=>(mi l i).bind fun l'=>k (val (Oo ec.2 v l'))
  |none,some j,none=>(ta l j).bind fun l'=>k (val (.sl ec.2 l'))
  |some i,some j,none=>(yQ l i j).bind fun l'=>k (val (.sl ec.2 l'))
  |none,some j,some m=>(mC (m=j)).bind fun _=>(ta l j).bind fun l'=>k (val (.KL ec.2 l'))
  |_,_,_=>none
def nM(t:TypeId)(v w:CV S)(ob:List (Nat×Nat×AO S))(ct:Nat)(k:ek S->Option γ):Option γ:=
 (dY tt t).bind fun ec=>(tt ec.1).bind fun ei=>(KM ec.2 w).bind fun l'=>match v with
  |.dx=>(app ei.bytes [] l').bind fun l2=>match has t fa.Mg with
   |true=>k {v:=.one (.aw (ct+1)),add:=[(ct+1,.arr ec.1 ec.2 true l2)]}
   |false=>k {v:=.one (.rw (ct+1) ec.2 l2),add:=[(ct+1,.row ec.1 ec.2)]}
  |.rw o d l=>(look o ob).bind fun a=>match a.2,decEq d ec.2 with
   |.row e' d',isTrue h=>(match Nat.beq e' ec.1,decEq d' ec.2 with
    |true,isTrue _=>(app ei.bytes (ia h l) l').bind fun l2=>k {v:=.one (.rw (ct+1) ec.2 l2),rm:=[o],add:=[(ct+1,.row ec.1 ec.2)]}
    |_,_=>none)
   |_,_=>none
  |.aw o=>(look o ob).bind fun a=>match a.2 with
   |.arr e' d true l=>(match Nat.beq e' ec.1,decEq d ec.2 with
    |true,isTrue h=>(app ei.bytes (ia h l) l').bind fun l2=>k {v:=.one (.aw (ct+1)),rm:=[o],add:=[(ct+1,.arr ec.1 ec.2 true l2)]}
    |_,_=>none)
   |_=>none
  |.KL d l=>(match decEq d ec.2 with
   |isTrue h=>(app ei.bytes (ia h l) l').bind fun l2=>k (val (.sl ec.2 l2))
   |isFalse _=>none)
  |_=>none
def w9(t:TypeId)(v:CV S)(lo hi mx:Option Int)(ob:List (Nat×Nat×AO S))(ct:Nat)(k:ek S->Option γ):Option γ:=match v with
 |.aw o=>(dY tt t).bind fun ec=>(look o ob).bind fun a=>match a.2,lo,hi,mx with
  |.arr _ c _ l,some i,none,none=>(match decEq c ec.2 with
   |isTrue _=>(mC (0<=i/\i<=(l.length:Int))).bind fun _=>k {v:=.one (.pt o ec.2 i ((l.length:Int)-i)),rd:=[o]}
   |isFalse _=>none)
  |.arr _ c _ l,some i,some j,none=>(match decEq c ec.2 with
   |isTrue _=>(mC (0<=i/\i<=j/\j<=(l.length:Int))).bind fun _=>k {v:=.one (.pt o ec.2 i (j-i)),rd:=[o]}
   |isFalse _=>none)
  |_,_,_,_=>none
 |v=>pL tt t v lo hi mx ob ct k
def NB(o:Nat)(s:CV S)(l:List UInt8):Option (List UInt8):=match s with
 |.pt o' c off n=>(match Nat.beq o' o,decEq c .u8 with
  |true,isTrue _=>some ((l.drop off.toNat).take n.toNat)
  |_,_=>none)
 |s=>KM .u8 s
def oz(t:TypeId)(o off:Nat)(lo hi mx:Option Int)(k:ek S->Option γ):Option γ:=
 (tt t).bind fun ti=>match ti.d,mx with
  |.array n e,none=>(tt e).bind fun ei=>(match Nat.beq ei.size 1 with
   |true=>(mC (0<=lo.getD 0/\lo.getD 0<n/\lo.getD 0<=hi.getD n/\hi.getD n<=n)).bind fun _=>k (val (.px o off n (lo.getD 0) (hi.getD n)))
   |false=>none)
  |_,_=>none
def xF(ec:TypeId×Co)(o off n:Nat)(i j:Int)(s:CV S)(ob:List (Nat×Nat×AO S))(k:ek S->Option γ):Option γ:=match s,ec.2 with
 |.px o' off' n' i' j',.int _=>(match Nat.beq o' o&&(Nat.beq off' off&&Nat.beq n' n)with
  |true=>(look o ob).bind fun a=>(match a.2 with
   |.box T cs=>(cutAt off cs).bind fun cs1=>(match cs1 with
    |.ai n1 kk f::_=>(match Nat.beq n1 n with
     |true=>(pG off (.ai n kk (Al f i.toNat i'.toNat (mZ (j-i) (j'-i')).toNat)) cs).bind fun cs'=>k {v:=.one (.int .i64 (mZ (j-i) (j'-i'))),rm:=[o],add:=[(o,.box T cs')]}
     |false=>none)
    |_=>none)
   |_=>none)
  |false=>none)
 |s,.u8=>(KM .u8 s).bind fun l=>(look o ob).bind fun a=>(match a.2 with
  |.box T cs=>(cutAt off cs).bind fun cs1=>(match cs1 with
   |.a8 n1 f::_=>(match Nat.beq n1 n with
    |true=>(pG off (.a8 n (Om f i.toNat (mZ (List.length (α:=UInt8) l:Int) (j-i)).toNat l)) cs).bind fun cs'=>k {v:=.one (.int .i64 (mZ (List.length (α:=UInt8) l:Int) (j-i))),rm:=[o],add:=[(o,.box T cs')]}
    |false=>none)
   |_=>none)
  |_=>none)
 |_,_=>none
def oy(t:TypeId)(o off:Nat)(lo hi mx:Option Int)(ob:List (Nat×Nat×AO S))(k:ek S->Option γ):Option γ:=
 (tt t).bind fun ti=>match ti.d,lo,hi,mx,off with
  |.array n e,none,none,none,0=>(tt e).bind fun ei=>(look o ob).bind fun a=>(match a.2 with
   |.box _ [.a8 n1 f]=>(match Nat.beq n1 n&&(Nat.beq ei.size 1&&(Nat.ble 1 n&&Nat.ble n 4096))with
    |true=>k {v:=.one (.sl .u8 (tZ (α:=UInt8) n f)),rm:=[o]}
    |false=>none)
   |_=>none)
  |_,_,_,_,_=>none
def wy(t:TypeId)(d s:CV S)(ob:List (Nat×Nat×AO S))(k:ek S->Option γ):Option γ:=
 (dY tt t).bind fun ec=>match d with
  |.pt o c off n=>(look o ob).bind fun a=>match a.2 with
   |.arr e c' full l=>(match decEq c' .u8,decEq c .u8,decEq ec.2 .u8 with
    |isTrue h,isTrue _,isTrue _=>(NB o s (ia h l)).bind fun x=>k {v:=.one (.int .i64 (mZ (x.length:Int) n)),rm:=[o],add:=[(o,.arr e .u8 full (IU (α:=UInt8) (ia h l) off.toNat (x.take n.toNat)))]}
    |_,_,_=>none)
   |_=>none
  |.px o off n i j=>xF ec o off n i j s ob k
  |_=>none
def Qd(o off n:Nat)(i j:Int)(ob:List (Nat×Nat×AO S)):Option (List UInt8):=(look o ob).bind fun a=>match a.2 with
 |.box _ cs=>(cutAt off cs).bind fun cs1=>(match cs1 with
  |.a8 n1 f::_=>(match Nat.beq n1 n with|true=>some (((tZ n f).drop i.toNat).take (j-i).toNat)|false=>none)
  |_=>none)
 |_=>none
def kj(t:TypeId)(q:Nat)(d:Co)(l:List (T S d))(o off n:Nat)(i j:Int)(ob:List (Nat×Nat×AO S))(ct:Nat)(k:ek S->Option γ):Option γ:=
 (dY tt t).bind fun ec=>(tt ec.1).bind fun ei=>(look q ob).bind fun a=>match a.2,decEq d .u8,decEq ec.2 .u8 with
  |.row e' d',isTrue h,isTrue _=>(match Nat.beq e' ec.1&&Nat.ble n 4096,decEq d' .u8 with
   |true,isTrue _=>(Qd o off n i j ob).bind fun l'=>(app (α:=UInt8) ei.bytes (ia h l) l').bind fun l2=>k {v:=.one (.rw (ct+1) .u8 l2),rd:=[o],rm:=[q],add:=[(ct+1,.row ec.1 .u8)]}
   |_,_=>none)
  |_,_,_=>none
def rp(t:TypeId)(v:CV S)(ob:List (Nat×Nat×AO S))(k:ek S->Option γ):Option γ:=
 (dY tt t).bind fun ec=>(tt ec.1).bind fun ei=>(tG tb ec.2 ei.zero).bind fun z=>match v with
  |.pt o c off n=>(look o ob).bind fun a=>match a.2 with
   |.arr e c' full l=>(match decEq c' ec.2,decEq c ec.2 with
    |isTrue h,isTrue _=>k {v:=.du [],rm:=[o],add:=[(o,.arr e ec.2 full (vX (ia h l) off.toNat n.toNat z))]}
    |_,_=>none)
   |_=>none
  |_=>none
def vl:Co->Bool
 |.int _=>true
 |.u8=>true
 |.bo=>true
 |_=>false
def km(t tx:TypeId)(v w:CV S)(ob:List (Nat×Nat×AO S))(ct:Nat)(k:ek S->Option γ):Option γ:=
 (dY tt t).bind fun ec=>(tt ec.1).bind fun ei=>(tt tx).bind fun xi=>match xi.d,v,w with
  |.int .i64,.dx,.int .i64 n=>(mC (0<n/\n*ei.bytes<=140737488355328)).bind fun _=>k {v:=.one (.rz (ct+1) ec.2 n),add:=[(ct+1,.row ec.1 ec.2)]}
  |.int .i64,.rw o d l,.int .i64 n=>(match vl ec.2,dt ei.d,decEq d ec.2 with
   |true,false,isTrue h=>(look o ob).bind fun a=>(match a.2 with
    |.row e' d'=>(match Nat.beq e' ec.1,decEq d' ec.2 with
     |true,isTrue _=>(tG tb ec.2 ei.zero).bind fun z=>(mC (0<=n/\n*ei.bytes<=140737488355328)).bind fun _=>(app ei.bytes (ia h l) (List.replicate n.toNat z)).bind fun l2=>k {v:=.one (.rw (ct+1) ec.2 l2),rm:=[o],add:=[(ct+1,.row ec.1 ec.2)]}
     |_,_=>none)
    |_=>none)
   |_,_,_=>none)
  |_,_,_=>none
def EY(t:TypeId)(v:CV S)(ob:List (Nat×Nat×AO S))(k:ek S->Option γ):Option γ:=
 (tt t).bind fun ti=>match ti.d with
 |.slice _=>(match v with
  |.sl _ l=>k (val (.int .i64 (l.length:Int)))
  |.KL _ l=>k (val (.int .i64 (l.length:Int)))
  |.rw _ _ l=>k (val (.int .i64 (l.length:Int)))
  |.dx=>k (val (.int .i64 0))
  |.aw o=>(look o ob).bind fun a=>match a.2 with
   |.arr _ _ _ l=>k {v:=.one (.int .i64 (l.length:Int)),rd:=[o]}
   |_=>none
  |_=>none)
 |.str=>(match v with| .str l=>k (val (.int .i64 (l.length:Int)))|_=>none)
 |.map _ _=>(match v with
  |.mp o=>(look o ob).bind fun a=>match a.2 with
   |.map _ _ _ l _=>k {v:=.one (.int .i64 (l.length:Int)),rd:=[o]}
   |_=>none
  |_=>none)
 |_=>none
def wu(s d:TypeId)(v:CV S)(ob:List (Nat×Nat×AO S))(k:ek S->Option γ):Option γ:=
 (tt s).bind fun a=>(tt d).bind fun b=>match v,b.d with
 |.int _ x,.int kd=>k (val (K5 kd x))
 |.u8 x,.int .u8=>k (val (.u8 x))
 |.u8 x,.int .i8=>k (val (.int .i8 (IntKind.i8.wrap (x.toNat:Int))))
 |.u8 x,.int kd=>k (val (.int kd (x.toNat:Int)))
 |.str l,.str=>match a.d with| .str=>k (val (.str l))|_=>none
 |v,.str=>match a.d,a.co with
  |.slice e,.sl .u8=>(tt e).bind fun ei=>match ei.d with| .int .u8=>(KM (S:=S) .u8 v).bind fun l=>k (val (.str l))|_=>none
  |_,_=>none
 |.rw o c (y::l),.slice e=>match Nat.beq s d with
  |true=>(tt e).bind fun ei=>(look o ob).bind fun b=>match ei.d,b.2 with| .int .u8,.row _ _=>k {v:=.one (.sl c (y::l)),rm:=[o]}|_,_=>none
  |false=>none
 |_,_=>none
def ib:Co->AV S->Option (List (CV S))
 |.st _,.agg vs=>some vs
 |.st _,_=>none
 |_,.one v=>some [v]
 |_,_=>none
def fg(t:TypeId):Option (Co×Co×TI S):=(tt t).bind fun ti=>match ti.d,ti.co with
 |.map _ e,.mp kc vc=>(tt e).bind fun ei=>(match uS tb kc&&(Ek vc&&!dt ei.d)with|true=>some (kc,vc,ei)|false=>none)
 |_,_=>none
def yh(vc:Co)(y:Option (T S vc))(z:T S vc)(ok:Bool):AV S:=match ok with
 |true=>.du [.one (toCV vc (y.getD z)),.one (Jb y.isSome)]
 |false=>.one (toCV vc (y.getD z))
def wS(t:TypeId)(v:CV S)(key:AV S)(ok:Bool)(ob:List (Nat×Nat×AO S))(k:ek S->Option γ):Option γ:=
 (fg tb tt t).bind fun i=>(ib i.1 key).bind fun cs=>(tG tb i.1 cs).bind fun x=>(tG tb i.2.1 i.2.2.zero).bind fun z=>match v with
 |.mp o=>(look o ob).bind fun a=>match a.2 with
  |.map t' kc vc l none=>(match Nat.beq t' t,decEq kc i.1,decEq vc i.2.1 with
   |true,isTrue h,isTrue h'=>k {v:=yh i.2.1 (dS (eN tb i.1) (eC h h' l) x) z ok,rd:=[o]}
   |_,_,_=>none)
  |.gi t' kc vc l none _=>(match Nat.beq t' t,decEq kc i.1,decEq vc i.2.1 with
   |true,isTrue h,isTrue h'=>k {v:=yh i.2.1 (dS (eN tb i.1) (eC h h' l) x) z ok,rd:=[o]}
   |_,_,_=>none)
  |_=>none
 |_=>none
def gM(t:TypeId)(v:CV S)(key w:AV S)(ob:List (Nat×Nat×AO S))(k:ek S->Option γ):Option γ:=
 (fg tb tt t).bind fun i=>(ib i.1 key).bind fun cs=>(tG tb i.1 cs).bind fun x=>(ib i.2.1 w).bind fun ws=>(tG tb i.2.1 ws).bind fun y=>match v with
 |.mp o=>(look o ob).bind fun a=>match a.2 with
  |.map t' kc vc l none=>(match Nat.beq t' t,decEq kc i.1,decEq vc i.2.1 with
   |true,isTrue h,isTrue h'=>k {v:=AV.dU S,rm:=[o],add:=[(o,.map t i.1 i.2.1 (gW (eN tb i.1) (eC h h' l) x y) none)]}
   |_,_,_=>none)
  |.gi t' kc vc l none q=>(match Nat.beq t' t,decEq kc i.1,decEq vc i.2.1 with
   |true,isTrue h,isTrue h'=>(mC ((dS (eN tb i.1) (eC h h' l) x).isSome=true)).bind fun _=>k {v:=AV.dU S,rm:=[o],add:=[(o,.gi t i.1 i.2.1 (gW (eN tb i.1) (eC h h' l) x y) none q)]}
   |_,_,_=>none)
  |_=>none
 |_=>none
def EG(t:TypeId)(v:CV S)(key:AV S)(ob:List (Nat×Nat×AO S))(k:ek S->Option γ):Option γ:=
 (fg tb tt t).bind fun i=>(ib i.1 key).bind fun cs=>(tG tb i.1 cs).bind fun x=>match v with
 |.mp o=>(look o ob).bind fun a=>match a.2 with
  |.map t' kc vc l none=>(match Nat.beq t' t,decEq kc i.1,decEq vc i.2.1 with
   |true,isTrue h,isTrue h'=>k {v:=.du [],rm:=[o],add:=[(o,.map t i.1 i.2.1 (M1 (eN tb i.1) (eC h h' l) x) none)]}
   |_,_,_=>none)
  |_=>none
 |_=>none
def sM{a c:Co}(h:a=c)(x:T S a):T S c:=h▸x
def wV(t:TypeId)(v:CV S)(key:AV S)(ob:List (Nat×Nat×AO S))(ct:Nat)(k:ek S->Option γ):Option γ:=
 (fg tb tt t).bind fun i=>(ib i.1 key).bind fun cs=>(tG tb i.1 cs).bind fun x=>(tG tb i.2.1 i.2.2.zero).bind fun z=>match v with
 |.mp o=>(look o ob).bind fun a=>match a.2 with
  |.map t' kc vc l none=>(match Nat.beq t' t,decEq kc i.1,decEq vc i.2.1 with
   |true,isTrue h,isTrue h'=>k {v:=.du [.one (toCV i.2.1 ((dS (eN tb i.1) (eC h h' l) x).getD z)),.one (.KQ o (ct+1))],rm:=[o],add:=[(o,.map t i.1 i.2.1 (B7 (eN tb i.1) (eC h h' l) x z) (some (x,ct+1)))]}
   |_,_,_=>none)
  |.gi t' kc vc l none q=>(match Nat.beq t' t,decEq kc i.1,decEq vc i.2.1 with
   |true,isTrue h,isTrue h'=>(mC ((dS (eN tb i.1) (eC h h' l) x).isSome=true)).bind fun _=>k {v:=.du [.one (toCV i.2.1 ((dS (eN tb i.1) (eC h h' l) x).getD z)),.one (.KQ o (ct+1))],rm:=[o],add:=[(o,.gi t i.1 i.2.1 (eC h h' l) (some (x,ct+1)) q)]}
   |_,_,_=>none)
  |_=>none
 |_=>none
def EM(t:TypeId)(v s:CV S)(w:AV S)(ob:List (Nat×Nat×AO S))(k:ek S->Option γ):Option γ:=
 (fg tb tt t).bind fun i=>(ib i.2.1 w).bind fun ws=>(tG tb i.2.1 ws).bind fun y=>match v,s with
 |.mp o,.KQ o' q=>(match Nat.beq o o' with
  |true=>(look o ob).bind fun a=>match a.2 with
   |.map t' kc vc l (some (x,q'))=>(match Nat.beq t' t&&Nat.beq q q',decEq kc i.1,decEq vc i.2.1 with
    |true,isTrue h,isTrue h'=>k {v:=AV.dU S,rm:=[o],add:=[(o,.map t i.1 i.2.1 (gW (eN tb i.1) (eC h h' l) (sM h x) y) none)]}
    |_,_,_=>none)
   |.gi t' kc vc l (some (x,q')) q0=>(match Nat.beq t' t&&Nat.beq q q',decEq kc i.1,decEq vc i.2.1 with
    |true,isTrue h,isTrue h'=>k {v:=AV.dU S,rm:=[o],add:=[(o,.gi t i.1 i.2.1 (gW (eN tb i.1) (eC h h' l) (sM h x) y) none q0)]}
    |_,_,_=>none)
   |_=>none
  |false=>none)
 |_,_=>none
def sm(t:TypeId)(v:CV S)(ob:List (Nat×Nat×AO S))(ct:Nat)(k:ek S->Option γ):Option γ:=
 (fg tb tt t).bind fun i=>match v with
 |.mp o=>(look o ob).bind fun a=>match a.2 with
  |.map t' kc vc l none=>(match Nat.beq t' t,decEq kc i.1,decEq vc i.2.1 with
   |true,isTrue h,isTrue h'=>k {v:=.one (.JR (ct+1)),rm:=[o],add:=[(o,.gi t i.1 i.2.1 (eC h h' l) none (ct+1)),(ct+1,.oM i.1 o none)]}
   |_,_,_=>none)
  |_=>none
 |_=>none
def DK:(c:Co)->T S c->AV S
 |.st i,x=>.agg (IX tb (.st i) x)
 |c,x=>.one (toCV c x)
def rA(v:CV S)(ob:List (Nat×Nat×AO S))(k:ek S->Option γ):Option γ:=match v with
 |.JR q=>(look q ob).bind fun b=>match b.2 with
  |.oM kc' o (some (some x))=>(look o ob).bind fun a=>match a.2 with
   |.gi t kc vc l none q'=>(fg tb tt t).bind fun i=>(tG tb i.2.1 i.2.2.zero).bind fun z=>(match Nat.beq q' q,decEq kc' i.1,decEq kc i.1,decEq vc i.2.1 with
    |true,isTrue h0,isTrue h,isTrue h'=>k {v:=.du [DK tb i.1 (sM h0 x),.one (toCV i.2.1 ((dS (eN tb i.1) (eC h h' l) (sM h0 x)).getD z))],rd:=[q,o]}
    |_,_,_,_=>none)
   |_=>none
  |_=>none
 |_=>none
def M6:List (CV S)->Bool
 |[.dx]=>true
 |_=>false
def lL(t:TypeId):Option (Co×Co×TypeId):=(tt t).bind fun ti=>match ti.d,ti.co with
 |.map _ e,.mp kc (.sl c)=>(tt e).bind fun si=>(dY tt e).bind fun ec=>(match uS tb kc&&M6 si.zero,decEq ec.2 c with|true,isTrue _=>some (kc,c,ec.1)|_,_=>none)
 |_,_=>none
def rG(t:TypeId)(v:CV S)(key:AV S)(ok:Bool)(ob:List (Nat×Nat×AO S))(k:ek S->Option γ):Option γ:=
 (lL tb tt t).bind fun i=>(ib i.1 key).bind fun cs=>(tG tb i.1 cs).bind fun x=>match v,ok with
 |.mp o,false=>(look o ob).bind fun a=>match a.2 with
  |.kF t' _ kc c l none=>(match Nat.beq t' t,decEq kc i.1,decEq c i.2.1 with
   |true,isTrue h,isTrue h'=>k {v:=.one (.sl i.2.1 ((dS (eN tb i.1) (sL h h' l) x).getD [])),rd:=[o]}
   |_,_,_=>none)
  |_=>none
 |_,_=>none
def rJ(t:TypeId)(v:CV S)(key:AV S)(ok:Bool)(ob:List (Nat×Nat×AO S))(ct:Nat)(k:ek S->Option γ):Option γ:=
 (lL tb tt t).bind fun i=>(ib i.1 key).bind fun cs=>(tG tb i.1 cs).bind fun x=>match v,ok with
 |.mp o,false=>(look o ob).bind fun a=>match a.2 with
  |.kF t' et kc c l none=>(match Nat.beq t' t&&Nat.beq et i.2.2,decEq kc i.1,decEq c i.2.1 with
   |true,isTrue h,isTrue h'=>k {v:=.one (.rw (ct+1) i.2.1 ((dS (eN tb i.1) (sL h h' l) x).getD [])),rm:=[o],add:=[(o,.kF t i.2.2 i.1 i.2.1 (sL h h' l) (some x)),(ct+1,.row i.2.2 i.2.1)]}
   |_,_,_=>none)
  |_=>none
 |_,_=>none
def Dx{α:Type}(eq:α->α->Bool)(x:α)(h:Option α)(k:Option γ):Option γ:=match h with
 |none=>k
 |some y=>(mC (eq x y=true)).bind fun _=>k
def Lf{a c:Co}(h:a=c)(x:Option (T S a)):Option (T S c):=h▸x
def wL(t:TypeId)(v:CV S)(key:AV S)(w:CV S)(ob:List (Nat×Nat×AO S))(k:ek S->Option γ):Option γ:=
 (lL tb tt t).bind fun i=>(ib i.1 key).bind fun cs=>(tG tb i.1 cs).bind fun x=>match v,w with
 |.mp o,.rw p d l2=>(look o ob).bind fun a=>(look p ob).bind fun b=>match a.2,b.2 with
  |.kF t' et kc c l hole,.row et' c'=>(match Nat.beq t' t&&(Nat.beq et i.2.2&&Nat.beq et' i.2.2),decEq kc i.1,decEq c i.2.1,decEq c' i.2.1,decEq d i.2.1 with
   |true,isTrue h,isTrue h',isTrue _,isTrue hd=>Dx (eN tb i.1) x (Lf h hole) (k {v:=AV.dU S,rm:=[o,p],add:=[(o,.kF t i.2.2 i.1 i.2.1 (gW (eN tb i.1) (sL h h' l) x (ia hd l2)) none)]})
   |_,_,_,_,_=>none)
  |_,_=>none
 |_,_=>none
def Hm:List (CV S)->Bool
 |[.dI]=>true
 |_=>false
def rO(t:TypeId):Option Co:=(tt t).bind fun ti=>match ti.d,ti.co with
 |.map _ e,.mp kc (.a8 _)=>(tt e).bind fun fi=>(match uS tb kc&&(Hm fi.zero&&!dt fi.d)with|true=>some kc|false=>none)
 |_,_=>none
def zu{a c:Co}(h:a=c)(l:List (T S a×CV S)):List (T S c×CV S):=h▸l
def MU:CV S->Bool
 |.fn _ _ _=>true
 |_=>false
def uU(t:TypeId)(v:CV S)(key:AV S)(w:AV S)(ob:List (Nat×Nat×AO S))(k:ek S->Option γ):Option γ:=
 (rO tb tt t).bind fun i=>(ib i key).bind fun cs=>(tG tb i cs).bind fun x=>match v,w with
 |.mp o,.one f=>(look o ob).bind fun a=>match a.2 with
  |.wb t' kc l=>(match Nat.beq t' t&&MU f,decEq kc i with
   |true,isTrue h=>(match(zu h l).any fun p=>eN tb i x p.1 with
    |true=>none
    |false=>k {v:=AV.dU S,rm:=[o],add:=[(o,.wb t i (zu h l++[(x,f)]))]})
   |_,_=>none)
  |_=>none
 |_,_=>none
def uT(o:Nat)(c:Co)(x:T S c)(k:ek S->Option γ):List (T S c×CV S)->Option γ
 |[]=>k {v:=.one .dI,rd:=[o]}
 |p::l=>@ite _ (eN tb c x p.1=true) inferInstance (k {v:=.one p.2,rd:=[o]}) (uT o c x k l)
def rN(t:TypeId)(v:CV S)(key:AV S)(ok:Bool)(ob:List (Nat×Nat×AO S))(k:ek S->Option γ):Option γ:=
 (rO tb tt t).bind fun i=>(ib i key).bind fun cs=>(tG tb i cs).bind fun x=>match v,ok with
 |.mp o,false=>(look o ob).bind fun a=>match a.2 with
  |.wb t' kc l=>(match Nat.beq t' t,decEq kc i with
   |true,isTrue h=>uT tb o i x k (zu h l)
   |_,_=>none)
  |_=>none
 |_,_=>none
def nj:List (AV S)->Option (List (CV S))
 |[]=>some []
 |.one v::l=>(nj l).map (v:: ·)
 |.agg vs::l=>(nj l).map (.ag vs:: ·)
 |_::_=>none
def fm(place:Nat->Option (Nat×Nat)):List (CV S)->List (Nat×AV S)->Option (List (CV S))
 |cs,[]=>some cs
 |cs,(i,a)::l=>(place i).bind fun p=>(jE a).bind fun xs=>(HM p.1 p.2 xs cs).bind fun cs'=>fm place cs' l
def EZ(c:Co):List (Nat×AV S)->Option (List (T S c))
 |[]=>some []
 |(_,a)::l=>(jE a).bind fun xs=>(tG tb c xs).bind fun x=>(EZ c l).map (x:: ·)
def uH:Nat->List (Nat×AV S)->Bool
 |_,[]=>true
 |i,(j,_)::l=>Nat.beq i j&&uH (i+1) l
def pn(f:TypeId×Nat×Nat)(v:CV S)(k:ek S->Option γ):Option γ:=match Nat.ble 1 f.2.2,v with
 |true,.ptr o off=>k (val (.ptr o (off+f.2.1)))
 |true,.el c x off=>k (val (.el c x (off+f.2.1)))
 |true,.Bg o v c x j off=>k (val (.Bg o v c x j (off+f.2.1)))
 |_,_=>none
def NM(op:UnOp)(v:CV S)(k:ek S->Option γ):Option γ:=match op,v with
 |.not,.tt b=>k (val (.tt !b))
 |.not,.bo b _ _ _=>k (val (Jd b))
 |.not,.na e n=>k (val (.na e (!n)))
 |.neg,.int kk x=>k (val (.int kk (kk.wrap (-x))))
 |.xor,.int kk x=>k (val (.int kk (Ew kk (if kk.signed then -1 else kk.max) x)))
 |_,_=>none
def yL:Operand->Operand->Bool
 |.tmp a,.tmp b=>Nat.beq a b
 |.const (.int k n),.const (.int k' n')=>decide (k=k')&&decide (n=n')
 |_,_=>false
def core(o:Oper)(xs:List (AV S))(ob:List (Nat×Nat×AO S))(ct:Nat)(k:ek S->Option γ):Option γ:=
 match o.op with
 |.move _=>match xs with| [a]=>k {v:=a}|_=>none
 |.assign _=>match xs with| [a]=>k {v:=a}|_=>none
 |.pick _ _ _=>match xs with| [.one c,a,b]=>MS c (fun z=>match z with|true=>k {v:=a}|false=>k {v:=b})|_=>none
 |.extract _ i=>match xs with| [.du vs]=>(vs[i]?).bind fun a=>k {v:=a}|_=>none
 |.nilCheck _=>match xs with| [.one v]=>(match v with| .ptr _ _=>k (val v)| .fn (.func _) _ _=>k (val v)| .el _ _ _=>k (val v)| .Bg _ _ _ _ _ _=>k (val v)|_=>none)|_=>none
 |.binOp op t _ y _=>match xs with| [a,b]=>Eu tt op t y a b fun v=>k (val v)|_=>none
 |.unOp op _ _=>match xs with
  |[.one v]=>NM op v k
  |_=>none
 |.convert s d _=>match xs with| [.one v]=>wu tt s d v ob k|_=>none
 |.fieldAddr t _ i=>match xs with
  |[.one v]=>(tt t).bind fun ti=>match ti.d with
   |.struct fs=>(fs[i]?).bind fun(f:TypeId×Nat×Nat)=>pn f v k
   |_=>none
  |_=>none
 |.field t _ i=>match xs with
  |[.agg vs]=>(tt t).bind fun ti=>match ti.d with
   |.struct fs=>(fs[i]?).bind fun(f:TypeId×Nat×Nat)=>(tt f.1).bind fun fi=>(match dt fi.d with
    |true=>((cutAt f.2.1 vs).bind (ku fi.size)).bind fun l=>k {v:=.agg l}
    |false=>(mM f.2.1 vs).bind fun v=>k (val v))
   |_=>none
  |_=>none
 |.build t parts=>(tt t).bind fun ti=>(match ti.d with
  |.struct fs=>fm (fun i=>(fs[i]?).map fun(f:TypeId×Nat×Nat)=>f.2) ti.zero ((parts.toList.map Prod.fst).zip xs)
  |.array _ e=>(tt e).bind fun ei=>fm (fun i=>some (i*ei.size,ei.size)) ti.zero ((parts.toList.map Prod.fst).zip xs)
  |_=>none).bind fun cs=>k {v:=.agg cs}
 |.makeFunc f first _=>(nj xs).bind fun vs=>k (val (.fn f (vs.take first.size) (vs.drop first.size)))
 |.alloc t=>(tt t).bind fun ti=>k {v:=.one (.ptr (ct+1) 0),add:=[(ct+1,.box t ti.zero)]}
 |.box t _=>match xs with| [a]=>(jE a).bind fun cs=>k {v:=.one (.ptr (ct+1) 0),add:=[(ct+1,.box t cs)]}|_=>none
 |.load t _=>match xs with| [.one v]=>wR tb tt t v ob k|_=>none
 |.store t _ _=>match xs with| [.one p,a]=>sA tb tt t p a ob k|_=>none
 |.indexAddr t _ y=>match xs with| [.one v,i]=>(idxOf i).bind fun i=>rK tt t y v i ob k|_=>none
 |.index t _ _=>(tt t).bind fun ti=>match ti.d,xs with
  |.str,[.one (.str l),i]=>(idxOf i).bind fun i=>(idx l i).bind fun c=>k (val (.u8 c))
  |.array n e,[.agg [.ai n' kk f],i]=>(tt e).bind fun ei=>(idxOf i).bind fun i=>(match Nat.beq n' n,Nat.beq ei.size 1,dt ei.d with
   |true,true,false=>(mC (0<=i/\i<n)).bind fun _=>k (val (.int kk (lH f i)))
   |_,_,_=>none)
  |_,_=>none
 |.slice t _ lo hi mx=>match xs with
  |.one v::r=>(mc lo r).bind fun a=>(mc hi a.2).bind fun b=>(mc mx b.2).bind fun c=>match v with| .ptr o off=>(match has t fa.parts with|true=>oy tt t o off a.1 b.1 c.1 ob k|false=>oz tt t o off a.1 b.1 c.1 k)|v=>(match has t fa.parts&&a.1.isSome with|true=>w9 tt t v a.1 b.1 c.1 ob ct k|false=>pL tt t v a.1 b.1 c.1 ob ct k)
  |_=>none
 |.buildSlice t len parts=>(dY tt t).bind fun ec=>(tt ec.1).bind fun ei=>
  let ps:=(parts.toList.map Prod.fst).zip xs
  match Nat.beq len xs.length&&uH 0 ps&&Nat.ble (len*ei.size) 16777216 with
  |true=>(EZ tb ec.2 ps).bind fun l=>match has t fa.lits||(Nat.beq len 0&&has t fa.Mg)with
   |true=>k {v:=.one (.aw (ct+1)),add:=[(ct+1,.arr ec.1 ec.2 true l)]}
   |false=>k {v:=.one (.rw (ct+1) ec.2 l),add:=[(ct+1,.row ec.1 ec.2)]}
  |false=>none
 |.makeMap t r=>match r,xs with
  |none,[]=>(match fg tb tt t with
   |some i=>k {v:=.one (.mp (ct+1)),add:=[(ct+1,.map t i.1 i.2.1 [] none)]}
   |none=>(match lL tb tt t with
    |some i=>k {v:=.one (.mp (ct+1)),add:=[(ct+1,.kF t i.2.2 i.1 i.2.1 [] none)]}
    |none=>(rO tb tt t).bind fun i=>k {v:=.one (.mp (ct+1)),add:=[(ct+1,.wb t i [])]}))
  |_,_=>none
 |.lookup t _ _ ok=>match xs with| [.one v,key]=>(match(fg tb tt t).isSome,(lL tb tt t).isSome with|true,_=>wS tb tt t v key ok ob k|false,true=>(match has t fa.takes with|true=>rJ tb tt t v key ok ob ct k|false=>rG tb tt t v key ok ob k)|false,false=>rN tb tt t v key ok ob k)|_=>none
 |.mapEntry t _ _=>match xs with| [.one v,key]=>wV tb tt t v key ob ct k|_=>none
 |.entryStore t _ _ _=>match xs with| [.one v,.one s,w]=>EM tb tt t v s w ob k|_=>none
 |.mapUpdate t _ _ _=>match xs with| [.one v,key,w]=>(match(fg tb tt t).isSome,(lL tb tt t).isSome with|true,_=>gM tb tt t v key w ob k|false,true=>(match w with| .one w=>wL tb tt t v key w ob k|_=>none)|false,false=>uU tb tt t v key w ob k)|_=>none
 |.range t _=>match xs with| [.one v]=>sm tb tt t v ob ct k|_=>none
 |.entry _=>match xs with| [.one v]=>rA tb tt v ob k|_=>none
 |.makeSlice t x y=>match xs,yL x y with
  |[a,_],true=>(idxOf a).bind fun n=>(dY tt t).bind fun ec=>(tt ec.1).bind fun ei=>(match vl ec.2,dt ei.d with
   |true,false=>(tG tb ec.2 ei.zero).bind fun z=>(mC (0<=n/\n*ei.bytes<=140737488355328)).bind fun _=>
    k {v:=.one (.aw (ct+1)),add:=[(ct+1,.arr ec.1 ec.2 true (List.replicate n.toNat z))]}
   |_,_=>none)
  |_,_=>none
 |.call c=>match c.callee with
  |.builtin b=>match b,xs with
   |.len,[.one v]=>(match c.argTypes.toList with| [t]=>EY tt t v ob k|_=>none)
   |.append,[.one v,.one w]=>(match c.argTypes.toList with| [t,t']=>(match Nat.beq t t' with|true=>(match v,w with| .rw q d l,.px o off n i j=>kj tt t q d l o off n i j ob ct k|v,w=>nM tt fa t v w ob ct k)|false=>km tb tt t t' v w ob ct k)|_=>none)
   |.copy,[.one v,.one w]=>(match c.argTypes.toList with| [t,_]=>wy tt t v w ob k|_=>none)
   |.clear,[.one v]=>(match c.argTypes.toList with| [t]=>rp tb tt t v ob k|_=>none)
   |.delete,[.one v,key]=>(match c.argTypes.toList with| [t,_]=>EG tb tt t v key ob k|_=>none)
   |.cap,[.one .dx]=>(match c.argTypes.toList with| [t]=>(dY tt t).bind fun _=>k (val (.int .i64 0))|_=>none)
   |.min,[.one v,.one w]=>(num v).bind fun x=>(num w).bind fun y=>match decEq x.1 y.1 with|isTrue _=>k (val (my x.1 (mZ x.2 y.2)))|isFalse _=>none
   |.max,[.one v,.one w]=>(num v).bind fun x=>(num w).bind fun y=>match decEq x.1 y.1 with|isTrue _=>k (val (my x.1 (imax x.2 y.2)))|isFalse _=>none
   |_,_=>none
  |.value _=>match xs with
   |.one (.fn (.func f) first caps)::args=>(match Nat.ble f 999999 with|true=>jD tb f (first.map rk++args++caps.map rk) ob ct k Φ|false=>none)
   |.one (.yl q)::args=>(look q ob).bind fun a=>match a.2 with| .loop r .ready _=>jD tb (Qp r) (.one (.yl q)::args) ob ct k Φ|_=>none
   |_=>none
  |.invoke _ _=>none
 |.insert t _ _ _=>match xs with| [.one v,key,w]=>uU tb tt t v key w ob k|_=>none
 |_=>none
end
def nL:CV S->List Value
 |.int k x=>[.int k x]
 |.u8 x=>[.int .u8 (x.toNat:Int)]
 |.tt b=>[.bool b]
 |.str l=>[.string (Proofs.YtjfkdglgecgjfaaGreat.str l)]
 |.dx=>[.slice none 0 0]
 |.dM=>[.pointer none]
 |.dI=>[.nilFunc]
 |.u6=>[.map none]
 |.rS=>[.nilIface]
 |.a8 n f=>(List.range n).map (fun i=>.int .u8 ((f i).toNat:Int))
 |.ai n k f=>(List.range n).map (fun i=>.int k (f i))
 |_=>[]
def eP(vs:List (CV S)):List Value:=vs.flatMap nL
def GA:Value->Value->Bool
 |.int k n,.int k' n'=>decide (k=k')&&decide (n=n')
 |.bool b,.bool b'=>b == b'
 |.slice none 0 0,.slice none 0 0=>true
 |.pointer none,.pointer none=>true
 |.nilFunc,.nilFunc=>true
 |.map none,.map none=>true
 |.nilIface,.nilIface=>true
 |.string s,.string s'=>decide (s.data.toList=s'.data.toList)
 |_,_=>false
def EL:List Value->List Value->Bool
 |[],[]=>true
 |v::vs,w::ws=>match GA v w with|true=>EL vs ws|false=>false
 |_,_=>false
def tw:Value->Option (CV S)
 |.int .u8 n=>match decEq (n % 256) n with|isTrue _=>some (.u8 (G.u8 n))|isFalse _=>none
 |.int k n=>some (.int k n)
 |.bool b=>some (.tt b)
 |.string s=>some (.str s.data.toList)
 |.slice none 0 0=>some .dx
 |.pointer none=>some .dM
 |.nilFunc=>some .dI
 |.map none=>some .u6
 |.nilIface=>some .rS
 |_=>none
def kp:List Value->Option (List (CV S))
 |[]=>some []
 |v::vs=>(tw v).bind fun x=>(kp vs).map (x:: ·)
def xC(tt:TypeId->Option (TI S))(t:TypeId):Value->Option (AV S)
 |.agg cs=>match tt t with
  |some i=>(match EL (eP i.zero) cs.toList with|true=>some (.agg i.zero)|false=>(kp cs.toList).map .agg)
  |none=>(kp cs.toList).map .agg
 |.tuple vs=>match vs.toList with| []=>some (AV.dU S)|_=>none
 |v=>(tw v).map .one
def Ay(o:Oper):List TypeId:=match o.op with
 |.move _=>[o.type]
 |.assign _=>[o.type]
 |.store t _ _=>[0,t]
 |.binOp _ t _ _ _=>[t,t]
 |.call c=>match c.callee with| .builtin _=>c.argTypes.toList|_=>0::c.argTypes.toList
 |_=>[]
def AS.get(σ:AS S)(t:Tmp):Option (Nat×AV S):=look (σ.fb+t) σ.tm
def jP(tt:TypeId->Option (TI S))(σ:AS S)(t:TypeId):Operand->Option (AV S)
 |.tmp u=>(σ.get u).map (·.2)
 |.const v=>xC tt t v
 |.func f=>some (.one (.fn (.func f) [] []))
 |.global _=>none
def kQ(tt:TypeId->Option (TI S))(σ:AS S):List TypeId->List Operand->Option (List (AV S))
 |_,[]=>some []
 |[],x::xs=>(jP tt σ 0 x).bind fun a=>(kQ tt σ [] xs).map (a:: ·)
 |t::ts,x::xs=>(jP tt σ t x).bind fun a=>(kQ tt σ ts xs).map (a:: ·)
def AX(bC:Nat)(b:Bool):List (Nat×Nat×AV S)->List (Nat×Nat×AV S)
 |[]=>[]
 |(t,v,a)::l=>match Nat.beq v bC with|true=>(t,v,.one (.tt b))::AX bC b l|false=>(t,v,a)::AX bC b l
def AS.eV(σ:AS S)(bC:Nat)(b:Bool):AS S:={σ with tm:=AX bC b σ.tm}
def AS.put(σ:AS S)(d:Option Tmp)(bC:Option Nat)(v:AV S):AS S:=match d with
 |some d=>{σ with tm:=(σ.fb+d,bC.getD σ.ct,v)::mq (σ.fb+d) σ.tm}
 |none=>σ
def oJ(v:Nat):List (Nat×AO S)->List (Nat×Nat×AO S)
 |[]=>[]
 |(q,a)::l=>(q,v,a)::oJ (v+1) l
def AS.fX(σ:AS S)(d:Option Tmp)(bC:Option Nat)(r:ek S):AS S:=
 {σ.put d bC r.v with ob:=oJ (σ.ct+32) r.add++cp r.rm σ.ob,ct:=σ.ct+64}
def hU(σ:AS S):Op->Option Nat
 |.move (.tmp t)=>(σ.get t).map (·.1)
 |.assign (.tmp t)=>(σ.get t).map (·.1)
 |_=>none
abbrev Log:=List (Nat×List Nat×List Nat)
def qG(ops:Array Oper):Log->Bool
 |[]=>true
 |(j,rd,rm)::l=>(l.all fun p=>D.jY ops p.1 j||!(rm.any (fun x=>has x p.2.1||has x p.2.2)||rd.any fun x=>has x p.2.2))&&qG ops l
section
variable {γ:Type}(tt:TypeId->Option (TI S))(Φ:List (jr S))(fa:FA S)
def mV(ops:Array Oper)(g:Option (Nat×Bool))(σ:AS S)(go:Bool->AS S->Option γ):Option γ:=match g with
 |none=>go true σ
 |some (j,b)=>match(mj ops j).bind σ.get with
  |some (bC,.one v)=>(match v with
   |.tt c=>go (c == b) σ
   |.bo _ p d _=>@ite _ p d (go b (σ.eV bC true)) (go (!b) (σ.eV bC false))
   |_=>none)
  |some (_,.du [])=>go false σ
  |_=>none
def jI(sq:Bool)(ops:Array Oper):List Oper->Nat->AS S->Log->(AS S->Log->Option γ)->Option γ
 |[],_,σ,lg,k=>k σ lg
 |o::rest,i,σ,lg,k=>mV ops o.guard σ fun run σ=>match run with
  |false=>jI sq ops rest (i+1) {σ.put o.dst none (AV.dU S)with ct:=σ.ct+64} lg k
  |true=>match kQ tt σ (Ay o) o.op.operands.toList with
   |some xs=>match J6 fa sq o xs with
    |none=>core tb tt Φ fa o xs σ.ob σ.ct fun r=>match dN (r.rd++r.rm)with
     |true=>jI sq ops rest (i+1) (σ.fX o.dst (hU σ o.op) r) ((i,r.rd,r.rm++r.add.map (·.1))::lg) k
     |false=>none
    |some fx=>gJ tb fx.1 fx.2 σ.ob σ.ct (fun r=>jI sq ops rest (i+1) (σ.fX o.dst none r) lg k) fa.nd
   |none=>none
end
inductive An where
 |o
 |u (a:An)
 |b (l r:An)
 |j (J:JA) (a:An)
 |lp (J:JA) (a:An)
 |mr (J:JA) (q:Nat) (a:An)
 |z (l:List (Nat×Nat×Mb)) (a:An)
 deriving Inhabited
def An.l1:An->An
 |.u a=>a
 |.b l _=>l
 |_=>.o
def An.r1:An->An
 |.b _ r=>r
 |_=>.o
variable (S) in
def Kp(β:Type):=∀γ:Type,(β->γ)->IM->AS S->Option γ
variable (S) in
def W:=An->AS S->(β:Type)->Kp S β->(γ:Type)->(β->γ)->Option γ
def dV:Code->List Nat
 |.seq x y=>dV x++dV y
 |.cond _ x y=>dV x++dV y
 |.block _ x=>dV x
 |.scope x=>dV x
 |.loop x=>dV x
 |.region _ ops _=>ops.toList.filterMap (·.dst)
 |.rangeFunc _ ps x y=>ps.toList++(dV x++dV y)
 |_=>[]
def JA.at_(J:JA)(c:Code)(fb:Nat):JA:={J with kill:=(dV c).map (fb+ ·)++J.kill}
def kN(J:JA)(σ:AS S):Kp S (HT S J.ls):=fun _ e ex σ'=>match ex with
 |.normal=>(pack tb J σ σ').bind fun z=>some (e z)
 |_=>none
def kJ(J:JA)(σ:AS S){β γ:Type}(κ:Kp S β)(emb:β->γ):Kp S (HT S J.ls⊕γ):=fun δ e ex σ'=>match ex with
 |.normal=>(pack tb J σ σ').bind fun z=>some (e (.inl z))
 |ex=>κ δ (fun b=>e (.inr (emb b))) ex σ'
def kS{β:Type}(f:W S)(an:An)(κ:Kp S β):Kp S β:=fun δ e ex σ'=>match ex with
 |.normal=>f an σ' β κ δ e
 |ex=>κ δ e ex σ'
def kB{β:Type}(id:Nat)(κ:Kp S β):Kp S β:=fun δ e ex σ'=>match ex with
 |.exit n=>match Nat.beq n id with|true=>κ δ e .normal σ'|false=>κ δ e (.exit n) σ'
 |ex=>κ δ e ex σ'
def NP(c:Code)(f:W S):W S:=fun an σ β κ γ emb=>match an with
 |.j J a=>match J.early with
  |false=>(f a σ (HT S J.ls) (kN tb (J.at_ c σ.fb) σ) (HT S J.ls) id).bind fun z=>
   match unpack tb (J.at_ c σ.fb) σ z with|some σ1=>κ γ emb .normal σ1|none=>none
  |true=>(f a σ (HT S J.ls⊕γ) (kJ tb (J.at_ c σ.fb) σ κ emb) (HT S J.ls⊕γ) id).bind fun z=>
   DC z fun u=>match unpack tb (J.at_ c σ.fb) σ u with|some σ1=>κ γ emb .normal σ1|none=>none
 |a=>f a σ β κ γ emb
def wj(c:Code)(f:W S):W S:=fun an σ β κ γ emb=>match an with
 |.z l a=>match AE l σ with|some σ1=>NP tb c f a σ1 β κ γ emb|none=>none
 |an=>NP tb c f an σ β κ γ emb
def nv:Code->Nat
 |.region id _ _=>id
 |.seq x _=>nv x
 |_=>0
def gR(σ:AS S)(lp:AO S):AS S:={σ with ob:=(σ.ct+1,σ.ct+32,lp)::σ.ob,ct:=σ.ct+64}
def fC(q:Nat)(σ2:AS S){β γ:Type}(κ:Kp S β)(emb:β->γ):Option γ:=
 match look q σ2.ob with
 |some (_,.loop _ st _)=>(match st with
  |.ready=>κ γ emb .normal {σ2 with ob:=cp [q] σ2.ob}
  |.done .ret=>κ γ emb .ret {σ2 with ob:=cp [q] σ2.ob}
  |.done (.exit n)=>κ γ emb (.exit n) {σ2 with ob:=cp [q] σ2.ob}
  |_=>none)
 |_=>none
def PB(ops:Array Oper):Option (Nat×Nat×Nat):=match ops.toList with
 |[a,b]=>match a.op,a.dst,a.guard,b.op,b.dst,b.guard with
  |.next (.tmp it) false,some nx,none,.extract (.tmp nx') 0,some c,none=>(match Nat.beq nx nx' with|true=>some (it,nx,c)|false=>none)
  |_,_,_,_,_,_=>none
 |_=>none
def Dh(t:Nat)(l:List (Nat×Nat×AV S)):List (Nat×Nat×AV S):=l.filter fun p=>!Nat.beq p.1 t
def AS.bW(σ:AS S)(t:Nat):AS S:={σ with tm:=Dh (σ.fb+t) σ.tm}
def Ca(q it:Nat)(σ:AS S):Bool:=match σ.get it,look q σ.ob with
 |some (_,.one (.JR q')),some (_,.oM kc o _)=>(match look o σ.ob with
  |some (_,.gi _ kc' _ _ none q2)=>Nat.beq q' q&&(Nat.beq q2 q&&match decEq kc' kc with|isTrue _=>true|isFalse _=>false)
  |_=>false)
 |_,_=>false
def E7(q it nx c:Nat){kc:Co}(x:T S kc)(σ:AS S):Option (AS S):=match look q σ.ob with
 |some (_,.oM kc' o _)=>(match decEq kc kc',Ca q it σ with
  |isTrue h,true=>some (zi {(σ.bW nx).bW c with ob:=cp [q] σ.ob} q (.oM kc' o (some (some (sM h x)))))
  |_,_=>none)
 |_=>none
def wX(q it nx c:Nat)(σ:AS S):Option (AS S):=match look q σ.ob with
 |some (_,.oM _ o _)=>(match look o σ.ob,Ca q it σ with
  |some (_,.gi t kc vc l none _),true=>some (zi {((σ.bW nx).bW c).bW it with ob:=cp [o] (cp [q] σ.ob)} o (.map t kc vc l none))
  |_,_=>none)
 |_=>none
def kM(q ver:Nat)(J:JA)(σ:AS S){β γ:Type}(κ:Kp S β)(emb:β->γ):Kp S (HT S J.ls⊕γ):=fun δ e ex σ'=>match ex with
 |.normal=>(match look q σ'.ob with
  |some (v,_)=>(match Nat.beq v ver with|true=>(pack tb J σ σ').bind fun z=>some (e (.inl z))|false=>none)
  |none=>none)
 |ex=>κ δ (fun b=>e (.inr (emb b))) ex σ'
def G5{kc kc' vc:Co}(h:kc'=kc)(l:List (T S kc'×T S vc)):List (T S kc):=h▸l.map (·.1)
noncomputable def J4(J:JA)(q:Nat)(σ:AS S)(it nx c out:Nat)(f:AS S->(β:Type)->Kp S β->(γ:Type)->(β->γ)->Option γ){β γ:Type}(κ:Kp S β)(emb:β->γ):Option γ:=match look q σ.ob with
 |some (_,.oM kc o none)=>(match look o σ.ob with
  |some (_,.gi _ kc1 _ l none q1)=>(match decEq kc1 kc,Nat.beq q1 q with
   |isTrue h,true=>(pack tb J σ σ).bind fun z0=>oQ (fun p:List (T S kc)=>p.Perm (G5 h l)) fun p=>kP
    (fun x z=>match unpack tb J σ z with
     |some σ1=>(match E7 q it nx c x σ1 with
      |some σ2=>f σ2 (HT S J.ls⊕γ) (kM tb q (σ1.ct+32) J σ κ emb) (HT S J.ls⊕γ) id
      |none=>none)
     |none=>none)
    (fun z=>match unpack tb J σ z with
     |some σ1=>(match wX q it nx c σ1 with
      |some σ2=>κ γ emb (.exit out) σ2
      |none=>none)
     |none=>none) p z0
   |_,_=>none)
  |_=>none)
 |_=>none
section
variable (tt:TypeId->Option (TI S))(Φ:List (jr S))(fa:FA S)
noncomputable def sR:Code->W S
 |.skip=>wj tb (.skip) fun _ σ _ κ γ emb=>κ γ emb .normal σ
 |.label _=>wj tb (.label default) fun _ σ _ κ γ emb=>κ γ emb .normal σ
 |.ret=>wj tb (.ret) fun _ σ _ κ γ emb=>κ γ emb .ret σ
 |.exit n=>wj tb (.exit n) fun _ σ _ κ γ emb=>κ γ emb (.exit n) σ
 |.seq x y=>wj tb (.seq x y) fun an σ β κ γ emb=>sR x an.l1 σ β (kS (sR y) an.r1 κ) γ emb
 |.cond c x y=>wj tb (.cond c x y) fun an σ β κ γ emb=>match c with
  |.tmp t=>match σ.get t with
   |some (bC,.one v)=>(match v with
    |.tt true=>sR x an.l1 σ β κ γ emb
    |.tt false=>sR y an.r1 σ β κ γ emb
    |.bo _ p d _=>@ite _ p d (sR x an.l1 (σ.eV bC true) β κ γ emb) (sR y an.r1 (σ.eV bC false) β κ γ emb)
    |.na true _=>agree (sR x an.l1 (σ.eV bC true) β κ γ emb) (sR y an.r1 (σ.eV bC false) β κ γ emb)
    |.na false true=>sR x an.l1 (σ.eV bC true) β κ γ emb
    |.na false false=>sR y an.r1 (σ.eV bC false) β κ γ emb
    |_=>none)
   |_=>none
  |.const (.bool true)=>sR x an.l1 σ β κ γ emb
  |.const (.bool false)=>sR y an.r1 σ β κ γ emb
  |_=>none
 |.block id body=>wj tb (.block id body) fun an σ β κ γ emb=>sR body an.l1 σ β (kB id κ) γ emb
 |.scope body=>wj tb (.scope body) fun an σ β κ γ emb=>sR body an.l1 σ β κ γ emb
 |.loop body=>wj tb (.loop body) fun an σ _ κ γ emb=>match an with
  |.lp J a=>(pack tb (J.at_ (.loop body) σ.fb) σ σ).bind fun z0=>Iter (fun z=>match unpack tb (J.at_ (.loop body) σ.fb) σ z with
   |some σ1=>sR body a σ1 (HT S J.ls⊕γ) (kJ tb (J.at_ (.loop body) σ.fb) σ κ emb) (HT S J.ls⊕γ) id
   |none=>none) z0
  |.mr J q a=>(match body with
   |.seq (.region _ ops false) (.seq (.cond (.tmp c') .skip (.exit out)) rest)=>(match PB ops with
    |some (it,nx,c)=>(match Nat.beq c' c with
     |true=>J4 tb (J.at_ (.loop body) σ.fb) q σ it nx c out (fun σ2 β κ γ emb=>sR rest a σ2 β κ γ emb) κ emb
     |false=>none)
    |none=>none)
   |_=>none)
  |_=>none
 |.region _ ops draw=>wj tb (.region default ops draw) fun _ σ _ κ γ emb=>jI tb tt Φ fa (!draw) ops ops.toList 0 σ [] fun σ' lg=>match !draw||(qG ops lg&&dN (σ'.ob.map (·.1)))with
  |true=>κ γ emb .normal σ'
  |false=>none
 |.rangeFunc g ps x y=>wj tb (.rangeFunc g ps x y) fun _ σ _ κ γ emb=>match fa.rd,σ.fb,jP tt σ 0 g with
  |false,0,some (.one (.fn (.func f) [] caps))=>(match Nat.ble f 999999 with
   |true=>(match fa.nd.any fun c=>Nat.beq c.f f with
    |false=>jD tb f (.one (.yl (σ.ct+1))::caps.map rk) (gR σ (.loop (fa.fn*1000+nv x) .ready σ.tm)).ob (σ.ct+64) (fun r=>match dN (r.rd++r.rm)with
     |true=>fC (σ.ct+1) ((gR σ (.loop (fa.fn*1000+nv x) .ready σ.tm)).fX none none r) κ emb
     |false=>none) Φ
    |true=>gJ tb f (.one (.yl (σ.ct+1))::caps.map rk) (gR σ (.loop (fa.fn*1000+nv x) .ready σ.tm)).ob (σ.ct+64) (fun r=>fC (σ.ct+1) ((gR σ (.loop (fa.fn*1000+nv x) .ready σ.tm)).fX none none r) κ emb) fa.nd)
   |false=>none)
  |_,_,_=>none
 |.goto _=>fun _ _ _ _ _ _=>none
 |.refuse _=>fun _ _ _ _ _ _=>none
def CU:Nat->List (AV S)->List (Nat×Nat×AV S)
 |_,[]=>[]
 |i,a::l=>(i,64+i,a)::CU (i+1) l
def start(c:jr S)(x:HT S c.ls):Option (AS S):=
 (ic c.bk (kC c.ls x)).bind fun ds=>(PS.dc tb id c.ins ds).bind fun p=>(OS.dc tb id c.dP p.2).bind fun q=>
 some {tm:=CU 0 p.1,ob:=Ao 0 q.1,ct:=256,fb:=0,rt:=List.range c.dP.length}
def jR(tt:TypeId->Option (TI S))(σ:AS S):List ResultVar->Option (List (AV S))
 |[]=>some []
 |.tmp t::l=>(σ.get t).bind fun a=>(jR tt σ l).map (a.2:: ·)
 |.cell t ty::l=>(σ.get t).bind fun a=>match a.2 with
  |.one (.ptr o 0)=>(look o σ.ob).bind fun b=>match b.2 with
   |.box _ cs=>(tt ty).bind fun i=>(match dt i.d with|true=>(ku i.size cs).map AV.agg|false=>(mM 0 cs).map AV.one).bind fun v=>(jR tt σ l).map (v:: ·)
   |_=>none
  |_=>none
def vm:List (AV S)->AV S
 |[a]=>a
 |l=>.du l
def OS.ed(ob:List (Nat×Nat×AO S))(mp:List (Nat×Nat)):Nat->List KS->Option (List (eh S)×List (Nat×Nat))
 |_,[]=>some ([],mp)
 |o,.now s::l=>(look o mp).bind fun q=>(look q ob).bind fun a=>(OS.take tb mp s a.2).bind fun p=>(OS.ed ob p.2 (o+1) l).map fun r=>(p.1++r.1,r.2)
 |o,_::l=>OS.ed ob mp (o+1) l
def D7:Nat->List Nat->List (Nat×Nat)
 |_,[]=>[]
 |i,x::l=>(i,x)::D7 (i+1) l
def uQ(σ0 σ:AS S):Nat->List KS->Bool
 |_,[]=>true
 |o,.kept::l=>(match σ.rt[o]? with|some q=>Nat.beq q o|none=>false)&&(match look o σ0.ob,look o σ.ob with|some x,some y=>Nat.beq x.1 y.1|_,_=>false)&&uQ σ0 σ (o+1) l
 |o,_::l=>uQ σ0 σ (o+1) l
def fM(mp:List (Nat×Nat)):Nat->List KS->List Nat
 |_,[]=>[]
 |o,.now _::l=>match look o mp with|some q=>q::fM mp (o+1) l|none=>fM mp (o+1) l
 |o,_::l=>fM mp (o+1) l
def eS:Nat->List KS->List Nat
 |_,[]=>[]
 |o,.kept::l=>o::eS (o+1) l
 |o,_::l=>eS (o+1) l
def finish(n:Nat)(o:Out)(v:AV S)(σ0 σ:AS S):Option (HT S o.oV):=
 (PS.take tb (D7 0 σ.rt) o.out v).bind fun p=>(OS.ed tb σ.ob p.2 0 o.dQ).bind fun q=>
 match uQ σ0 σ 0 o.dQ&&(dN (eS 0 o.dQ++fM q.2 0 o.dQ)&&Nat.beq σ.rt.length n&&q.2.all fun p=>Nat.ble (p.1+1) o.dQ.length)with
 |true=>(ic o.QD (p.1++q.1)).bind (mz o.oV)
 |false=>none
def bH(n:Nat)(v:AV S)(σ0 σ:AS S):(os:List Out)->Option (ig S os)
 |[]=>none
 |[o]=>finish tb n o v σ0 σ
 |o::p::os=>match finish tb n o v σ0 σ with
  |some z=>some (Sum.inl z)
  |none=>(bH n v σ0 σ (p::os)).map Sum.inr
noncomputable def Ov(c:jr S)(rs:List ResultVar)(body:Code)(an:An)(x:HT S c.ls):Option (ig S c.outs):=
 match start tb c x with
 |some σ0=>sR tb tt Φ fa body an σ0 (ig S c.outs) (fun _ e' ex σ=>match ex with
  |.exit _=>none
  |_=>(AE fa.pre σ).bind fun σ=>(jR tt σ rs).bind fun vs=>(bH tb c.dP.length (vm vs) σ0 σ c.outs).bind fun y=>some (e' y)) (ig S c.outs) id
 |none=>none
end
end E
end Go.Proofs.YtjfkdglgecgjfaaGreat
