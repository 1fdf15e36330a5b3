/- Part of the proof. -/
import Derived.Test.YtjfkdglgecgjfaaGreatZArr
namespace Go.Proofs.YtjfkdglgecgjfaaGreat
open Go.RowKit G
namespace E
inductive Co where
 |int (k:IntKind)
 |u8
 |bo
 |str
 |sl (c:Co)
 |st (i:Nat)
 |a8 (n:Nat)
 |ai (n:Nat) (k:IntKind)
 |mp (k v:Co)
 deriving DecidableEq,Inhabited
def T(S:Nat->Type):Co->Type
 |.int _=>Int
 |.u8=>UInt8
 |.bo=>Bool
 |.str=>List UInt8
 |.sl c=>List (T S c)
 |.st i=>S i
 |.a8 _=>Nat->UInt8
 |.ai _ _=>Nat->Int
 |.mp k v=>List (T S k×T S v)
def HL(S:Nat->Type):List Co->Type
 |[]=>Unit
 |c::cs=>T S c×HL S cs
def HT(S:Nat->Type):List Co->Type
 |[]=>Unit
 |[c]=>T S c
 |c::d::cs=>T S c×HT S (d::cs)
variable (S:Nat->Type)
inductive CV where
 |int (k:IntKind) (x:Int)
 |u8 (x:UInt8)
 |bo (b:Bool) (p:Prop) (d:Decidable p) (h:b=true↔p)
 |tt (b:Bool)
 |str (l:List UInt8)
 |sl (c:Co) (l:List (T S c))
 |Xi (c:Co) (l:List (T S c))
 |rw(o:Nat) (c:Co) (l:List (T S c))
 |aw (o:Nat)
 |fg
 |a8 (n:Nat) (f:Nat->UInt8)
 |ai (n:Nat) (k:IntKind) (f:Nat->Int)
 |ptr (o off:Nat)
 |kG
 |el (c:Co) (x:T S c) (off:Nat)
 |KG (o:Nat) (v:Nat) (c:Co) (x:T S c) (j:Int) (off:Nat)
 |Sd (o off n:Nat) (i:Int)
 |px (o off n:Nat) (i j:Int)
 |fn (f:Fn) (first caps:List CV)
 |ag (xs:List CV)
 |fB
 |Bv
 |xV
 |yl (o:Nat)
 |na (e neg:Bool)
 |rz (o:Nat) (c:Co) (n:Int)
 |pt (o:Nat) (c:Co) (off n:Int)
 |mp (o:Nat)
 |Xo (o q:Nat)
 |Wq (q:Nat)
 deriving Inhabited
inductive AV where
 |one (v:CV S)
 |agg (vs:List (CV S))
 |dD (vs:List AV)
 deriving Inhabited
def AV.gH:AV S:=.dD []
inductive QY where
 |normal
 |ret
 |exit (n:Nat)
inductive LS where
 |ready
 |busy
 |done (e:QY)
def LS.same:LS->LS->Bool
 |.ready,.ready=>true
 |.busy,.busy=>true
 |.done .normal,.done .normal=>true
 |.done .ret,.done .ret=>true
 |.done (.exit n),.done (.exit k)=>Nat.beq n k
 |_,_=>false
inductive AO where
 |box (T:TypeId) (cs:List (CV S))
 |row (e:TypeId) (c:Co)
 |arr (e:TypeId) (c:Co) (full:Bool) (l:List (T S c))
 |loop (r:Nat) (st:LS) (tm:List (Nat×Nat×AV S))
 |map (t:TypeId) (kc vc:Co) (l:List (T S kc×T S vc)) (hole:Option (T S kc×Nat))
 |qE (t et:TypeId) (kc c:Co) (l:List (T S kc×List (T S c))) (hole:Option (T S kc))
 |EP (t:TypeId) (kc:Co) (l:List (T S kc×CV S))
 |lD (t:TypeId) (kc vc:Co) (l:List (T S kc×T S vc)) (hole:Option (T S kc×Nat)) (q:Nat)
 |sD (kc:Co) (o:Nat) (st:Option (Option (T S kc)))
 deriving Inhabited
structure AS where
 tm:List (Nat×Nat×AV S)
 ob:List (Nat×Nat×AO S)
 ct:Nat
 fb:Nat
 rt:List Nat
structure SD(σ:Type) where
 fs:List Co
 to:σ->HL S fs
 of:HL S fs->σ
variable {S}
def look{α:Type}(t:Nat):List (Nat×α)->Option α
 |[]=>none
 |(u,x)::l=>match Nat.beq u t with|true=>some x|false=>look t l
def qz{α:Type}(t:Nat):List (Nat×α)->List (Nat×α)
 |[]=>[]
 |(u,x)::l=>match Nat.beq u t with|true=>l|false=>(u,x)::qz t l
inductive TD where
 |int (k:IntKind)
 |bool
 |str
 |ptr (e:TypeId)
 |slice (e:TypeId)
 |array (n:Nat) (e:TypeId)
 |struct (fs:List (TypeId×Nat×Nat))
 |func
 |iface
 |map (k v:TypeId)
 deriving Inhabited
variable (S)
structure TI where
 d:TD
 size:Nat
 bytes:Nat
 zero:List (CV S)
 co:Co:=.bo
 eq:Bool:=false
 deriving Inhabited
variable {S}
def fu:TD->Bool
 |.struct _=>true
 |.array _ _=>true
 |_=>false
def CV.n:CV S->Nat
 |.a8 n _=>n
 |.ai n _ _=>n
 |_=>1
def o9:AV S->Option (List (CV S))
 |.one v=>some [v]
 |.agg vs=>some vs
 |.dD _=>none
def qx:Nat->List (CV S)->Option (List (CV S))
 |0,_=>some []
 |_+1,[]=>none
 |n+1,v::vs=>match Nat.ble v.n (n+1)with|true=>(qx (n+1-v.n) vs).map (v:: ·)|false=>none
def cutAt:Nat->List (CV S)->Option (List (CV S))
 |0,vs=>some vs
 |_+1,[]=>none
 |o+1,v::vs=>match Nat.ble v.n (o+1)with|true=>cutAt (o+1-v.n) vs|false=>none
def ta:Nat->List (CV S)->Option (CV S)
 |_,[]=>none
 |o,v::vs=>match Nat.ble v.n o with
  |true=>ta (o-v.n) vs
  |false=>match v with
   |.a8 _ f=>some (.u8 (f o))
   |.ai _ k f=>some (.int k (f o))
   |v=>some v
def ZF(o n:Nat)(xs vs:List (CV S)):Option (List (CV S)):=
 (qx o vs).bind fun a=>(cutAt (o+n) vs).map fun b=>a++(xs++b)
def TB:Nat->CV S->List (CV S)->Option (List (CV S))
 |_,_,[]=>none
 |o,x,v::vs=>match Nat.ble v.n o with
  |true=>(TB (o-v.n) x vs).map (v:: ·)
  |false=>match v,x with
   |.a8 n f,.u8 y=>some (.a8 n (tU f o y)::vs)
   |.ai n k f,.int k' y=>match decEq k' k with|isTrue _=>some (.ai n k (tU f o y)::vs)|isFalse _=>none
   |.a8 _ _,_=>none
   |.ai _ _ _,_=>none
   |_,x=>some (x::vs)
def ME(vs:List (CV S)):Nat:=(vs.map CV.n).sum
variable (S) in
abbrev Tb:=(i:Nat)->SD S (S i)
variable (tb:Tb S)
def toCV:(c:Co)->T S c->CV S
 |.int k,x=>.int k x
 |.u8,x=>.u8 x
 |.bo,(b:Bool)=>.bo b (b=true) inferInstance Iff.rfl
 |.str,l=>.str l
 |.sl c,l=>.sl c l
 |.st _,_=>.xV
 |.a8 n,f=>.a8 n f
 |.ai n k,f=>.ai n k f
 |.mp _ _,_=>.xV
def toCVs:(cs:List Co)->HL S cs->List (CV S)
 |[],_=>[]
 |c::cs,h=>toCV c h.1::toCVs cs h.2
def Q7:(c:Co)->T S c->List (CV S)
 |.st i,x=>toCVs (tb i).fs ((tb i).to x)
 |c,x=>[toCV c x]
def aaZ:(cs:List Co)->HL S cs->HL S cs->Bool
 |[],_,_=>true
 |.int _::cs,a,b=>vx a.1 b.1&&aaZ cs a.2 b.2
 |_::_,_,_=>false
def iX:(c:Co)->T S c->T S c->Bool
 |.int _=>vx
 |.str=>Ut
 |.st i=>fun x y=>aaZ (tb i).fs ((tb i).to x) ((tb i).to y)
 |_=>fun _ _=>false
def Dg:Co->Bool
 |.int .u8=>false
 |.int _=>true
 |.str=>true
 |.st i=>(tb i).fs.all fun c=>match c with| .int .u8=>false| .int _=>true|_=>false
 |_=>false
def O2:Co->Bool
 |.int _=>true
 |.u8=>true
 |.bo=>true
 |.str=>true
 |_=>false
def iH{a b c d:Co}(h:a=c)(k:b=d)(l:List (T S a×T S b)):List (T S c×T S d):=h▸k▸l
def AJ{a b c d:Co}(h:a=c)(k:b=d)(l:List (T S a×List (T S b))):List (T S c×List (T S d)):=h▸k▸l
def ng{c d:Co}(h:c=d)(l:List (T S c)):List (T S d):=h▸l
def Qr:(c:Co)->CV S->Option (T S c)
 |.int k,.int k' x=>match decEq k k' with|isTrue _=>some x|isFalse _=>none
 |.u8,.u8 x=>some x
 |.bo,.bo b _ _ _=>some b
 |.bo,.tt b=>some b
 |.str,.str l=>some l
 |.sl c,.sl d l=>match decEq d c with|isTrue h=>some (ng h l)|isFalse _=>none
 |.sl c,.Xi d l=>match decEq d c with|isTrue h=>some (ng h l)|isFalse _=>none
 |.sl c,.rw _ d l=>match decEq d c with|isTrue h=>some (ng h l)|isFalse _=>none
 |.sl _,.fg=>some []
 |.a8 n,.a8 n' f=>match Nat.beq n n'&&Nat.ble 1 n with|true=>some f|false=>none
 |.ai n k,.ai n' k' f=>match Nat.beq n n'&&Nat.ble 1 n,decEq k k' with|true,isTrue _=>some f|_,_=>none
 |_,_=>none
def FL:(cs:List Co)->List (CV S)->Option (HL S cs×List (CV S))
 |[],vs=>some ((),vs)
 |_::_,[]=>none
 |c::cs,v::vs=>(Qr c v).bind fun x=>(FL cs vs).map fun p=>((x,p.1),p.2)
def pk:(c:Co)->List (CV S)->Option (T S c×List (CV S))
 |.st i,vs=>(FL (tb i).fs vs).map fun p=>((tb i).of p.1,p.2)
 |_,[]=>none
 |c,v::vs=>(Qr c v).map fun x=>(x,vs)
def BU(c:Co)(vs:List (CV S)):Option (T S c):=(pk tb c vs).bind fun p=>match p.2 with| []=>some p.1|_::_=>none
def Xj(c:Co):CV S->Option (List (T S c)):=Qr (.sl c)
def num:CV S->Option (IntKind×Int)
 |.int k x=>match k with| .u8=>none|k=>some (k,x)
 |.u8 x=>some (.u8,(x.toNat:Int))
 |_=>none
def qL(k:IntKind)(x:Int):CV S:=match k with| .u8=>.u8 (G.u8 x)|k=>.int k x
def Xy(k:IntKind)(x:Int):CV S:=match k with| .u8=>.u8 (G.u8 x)|k=>.int k (k.wrap x)
def VH(p:Prop)[d:Decidable p]:CV S:=.bo (decide p) p d (decide_eq_true_iff)
def VE{α:Type}[DecidableEq α][BEq α][LawfulBEq α](a b:α):CV S:=.bo (a == b) (a=b) inferInstance beq_iff_eq
def VG{α:Type}[DecidableEq α][BEq α][LawfulBEq α](a b:α):CV S:=.bo (a !=b) (a≠b) inferInstance bne_iff_ne
def VC(b:Bool):CV S:=.bo b (b=true) inferInstance Iff.rfl
def VF(b:Bool):CV S:=.bo (!b) (b=false) inferInstance (by cases b<;>simp)
def bit:CV S->Option Bool
 |.bo b _ _ _=>some b
 |.tt b=>some b
 |_=>none
def isNil:CV S->Option Bool
 |.kG=>some true
 |.fB=>some true
 |.Bv=>some true
 |.xV=>some true
 |.fg=>some true
 |.ptr _ _=>some false
 |.fn _ _ _=>some false
 |.rw _ _ (_::_)=>some false
 |_=>none
def zl:List (CV S)->List (CV S)->Option (PSigma fun p:Prop=>Decidable p)
 |[.int _ x],[.int _ y]=>some ⟨x=y,inferInstance⟩
 |[.u8 x],[.u8 y]=>some ⟨(x.toNat:Int)=(y.toNat:Int),inferInstance⟩
 |.int _ x::v::vs,.int _ y::w::ws=>(zl (v::vs) (w::ws)).map fun p=>⟨x=y/\p.1,@instDecidableAnd _ _ inferInstance p.2⟩
 |.u8 x::v::vs,.u8 y::w::ws=>(zl (v::vs) (w::ws)).map fun p=>⟨(x.toNat:Int)=(y.toNat:Int)/\p.1,@instDecidableAnd _ _ inferInstance p.2⟩
 |[v],[w]=>(bit v).bind fun x=>(bit w).map fun y=>⟨x=y,inferInstance⟩
 |v::v'::vs,w::w'::ws=>(bit v).bind fun x=>(bit w).bind fun y=>(zl (v'::vs) (w'::ws)).map fun p=>⟨x=y/\p.1,@instDecidableAnd _ _ inferInstance p.2⟩
 |_,_=>none
def kindOk:List (CV S)->List (CV S)->Bool
 |[],[]=>true
 |.int k _::z,.int k' _::v=>decide (k=k')&&kindOk z v
 |.u8 _::z,.u8 _::v=>kindOk z v
 |.tt _::z,.bo _ _ _ _::v=>kindOk z v
 |.tt _::z,.tt _::v=>kindOk z v
 |_,_=>false
def G6:Operand->Bool
 |.const (.int _ n)=>decide (0<n)
 |_=>false
def Oj:Operand->Bool
 |.const (.int _ n)=>decide (0<=n)
 |_=>false
section
variable {γ:Type}
def Y4(v:CV S)(k:Bool->Option γ):Option γ:=match v with
 |.tt b=>k b
 |.bo _ p d _=>@ite _ p d (k true) (k false)
 |_=>none
def pZ(op:BinOp)(kv kw:IntKind)(x z:Int)(y:Operand)(k:CV S->Option γ):Option γ:=
 match op with
 |.shl=>(match Oj y with|true=>k (qL kv (Bt kv x z))|false=>(nW (0<=z)).bind fun _=>k (qL kv (Bt kv x z)))
 |.shr=>(match Oj y with|true=>k (qL kv (fR kv x z))|false=>(nW (0<=z)).bind fun _=>k (qL kv (fR kv x z)))
 |op=>match decEq kv kw with
  |isFalse _=>none
  |isTrue _=>match op with
   |.lss=>k (VH (x<z))
   |.leq=>k (VH (x<=z))
   |.gtr=>k (VH (x>z))
   |.geq=>k (VH (x≥z))
   |.eql=>k (VE x z)
   |.neq=>k (VG x z)
   |.add=>k (Xy kv (x+z))
   |.sub=>k (Xy kv (x-z))
   |.mul=>k (Xy kv (x*z))
   |.and=>k (qL kv (KX kv x z))
   |.or=>k (qL kv (Yl kv x z))
   |.xor=>k (qL kv (PL kv x z))
   |.andNot=>k (qL kv (Nk kv x z))
   |.quo=>(match G6 y with|true=>k (Xy kv (Int.tdiv x z))|false=>(nW (z≠0)).bind fun _=>k (Xy kv (Int.tdiv x z)))
   |.rem=>(match G6 y with|true=>k (qL kv (Int.tmod x z))|false=>(nW (z≠0)).bind fun _=>k (qL kv (Int.tmod x z)))
   |_=>none
def n9(op:BinOp)(a b:CV S)(k:CV S->Option γ):Option γ:=match op with
 |.eql=>k a
 |.neq=>k b
 |_=>none
def Yy(tt:TypeId->Option (TI S))(op:BinOp)(xT:TypeId)(a b:AV S)(k:CV S->Option γ):Option γ:=
 (tt xT).bind fun ti=>match ti.d,a,b with
 |.str,.one (.str x),.one (.str z)=>(match op with| .add=>(app 1 x z).bind fun l=>k (.str l)|op=>n9 op (VH (x=z)) (VF (decide (x=z))) k)
 |.bool,.one v,.one w=>(bit v).bind fun x=>(bit w).bind fun z=>n9 op (VE x z) (VG x z) k
 |.ptr _,.one .kG,.one .kG=>n9 op (.tt true) (.tt false) k
 |.ptr _,.one (.ptr _ _),.one .kG=>n9 op (.tt false) (.tt true) k
 |.ptr _,.one .kG,.one (.ptr _ _)=>n9 op (.tt false) (.tt true) k
 |.func,.one .fB,.one .fB=>n9 op (.tt true) (.tt false) k
 |.func,.one (.fn _ _ _),.one .fB=>n9 op (.tt false) (.tt true) k
 |.slice _,.one .fg,.one .fg=>n9 op (.tt true) (.tt false) k
 |.slice _,.one (.sl _ l),.one .fg=>n9 op (.na l.isEmpty false) (.na l.isEmpty true) k
 |.slice _,.one (.rw _ _ (_::_)),.one .fg=>n9 op (.tt false) (.tt true) k
 |.array n e,.agg [.a8 n1 f],.agg [.a8 n2 g]=>(tt e).bind fun ei=>match ei.d,Nat.beq n 32&&Nat.beq n1 32&&Nat.beq n2 32&&ti.eq with
  |.int .u8,true=>n9 op (VC (tu f g)) (VF (tu f g)) k
  |_,_=>none
 |.struct _,.agg vs,.agg ws=>match ti.eq&&kindOk ti.zero vs&&kindOk ti.zero ws with
  |true=>(zl vs ws).bind fun p=>n9 op (@VH _ p.1 p.2) (VF (@decide p.1 p.2)) k
  |false=>none
 |_,_,_=>none
def PJ(tt:TypeId->Option (TI S))(op:BinOp)(xT:TypeId)(y:Operand)(a b:AV S)(k:CV S->Option γ):Option γ:=
 match a,b with
 |.one v,.one w=>
  match num v,num w with
  |some (kv,x),some (kw,z)=>pZ op kv kw x z y k
  |_,_=>Yy tt op xT a b k
 |_,_=>Yy tt op xT a b k
end
inductive CS where
 |eX (c:Co)
 |rw(o:Nat) (c:Co)
 |aw (o:Nat)
 |ptr (o off:Nat)
 |kG
 |fB
 |fn (f:FuncId) (first caps:List CS)
 |tt (b:Bool)
 |fg
 |yl (o:Nat)
 |mpo (o:Nat)
 deriving Inhabited
inductive PS where
 |one (s:CS)
 |agg (l:List CS)
 |dD (l:List PS)
 deriving Inhabited
inductive OS where
 |box (T:TypeId) (l:List CS)
 |row (e:TypeId) (c:Co)
 |arr (e:TypeId) (c:Co) (full:Bool)
 |loop (r:Nat) (st:LS) (Q6:List (Nat×PS))
 |map (t:TypeId) (kc vc:Co)
 |qE (t et:TypeId) (kc c:Co)
 |lD (t:TypeId) (kc vc:Co) (q:Nat)
 |sD (kc:Co) (o:Nat)
 deriving Inhabited
variable (S) in
abbrev ic:=(c:Co)×T S c
def yL:CV S->AV S
 |.ag xs=>.agg xs
 |v=>.one v
def nag:CV S->Bool
 |.ag _=>false
 |_=>true
def WT(v:CV S):Bool:=Nat.beq v.n 1
mutual
def CS.fill(ids:Nat->Nat):CS->List (ic S)->Option (List (CV S)×List (ic S))
 |.eX c,⟨c',x⟩::ds=>match decEq c' c with|isTrue h=>some (Q7 tb c (h▸x),ds)|isFalse _=>none
 |.rw o c,⟨c',x⟩::ds=>match decEq c' (.sl c)with|isTrue h=>some ([.rw (ids o) c (show List (T S c) from(h▸x:T S (.sl c)))],ds)|isFalse _=>none
 |.eX _,[]=>none
 |.rw _ _,[]=>none
 |.aw o,ds=>some ([.aw (ids o)],ds)
 |.ptr o off,ds=>some ([.ptr (ids o) off],ds)
 |.kG,ds=>some ([.kG],ds)
 |.fB,ds=>some ([.fB],ds)
 |.tt b,ds=>some ([.tt b],ds)
 |.fg,ds=>some ([.fg],ds)
 |.yl o,ds=>some ([.yl (ids o)],ds)
 |.mpo o,ds=>some ([.mp (ids o)],ds)
 |.fn f xs ys,ds=>(CS.eS ids xs ds).bind fun p=>(CS.eS ids ys p.2).bind fun q=>match p.1.all WT&&q.1.all WT with|true=>some ([.fn (.func f) p.1 q.1],q.2)|false=>none
def CS.eS(ids:Nat->Nat):List CS->List (ic S)->Option (List (CV S)×List (ic S))
 |[],ds=>some ([],ds)
 |s::l,ds=>(CS.fill ids s ds).bind fun p=>(CS.eS ids l p.2).map fun q=>(p.1++q.1,q.2)
end
mutual
def PS.fill(ids:Nat->Nat):PS->List (ic S)->Option (AV S×List (ic S))
 |.one s,ds=>(CS.fill tb ids s ds).bind fun p=>match p.1 with| [v]=>some (.one v,p.2)|_=>none
 |.agg l,ds=>(CS.eS tb ids l ds).map fun p=>(.agg p.1,p.2)
 |.dD l,ds=>(PS.eS ids l ds).map fun p=>(.dD p.1,p.2)
def PS.eS(ids:Nat->Nat):List PS->List (ic S)->Option (List (AV S)×List (ic S))
 |[],ds=>some ([],ds)
 |s::l,ds=>(PS.fill ids s ds).bind fun p=>(PS.eS ids l p.2).map fun q=>(p.1::q.1,q.2)
end
def uC(ids:Nat->Nat)(bT:Nat):List (Nat×PS)->List (ic S)->Option (List (Nat×Nat×AV S)×List (ic S))
 |[],ds=>some ([],ds)
 |(t,s)::l,ds=>(PS.fill tb ids s ds).bind fun p=>(uC ids (bT+1) l p.2).map fun q=>((t,bT,p.1)::q.1,q.2)
def OS.fill(ids:Nat->Nat):OS->List (ic S)->Option (AO S×List (ic S))
 |.box T l,ds=>(CS.eS tb ids l ds).map fun p=>(.box T p.1,p.2)
 |.row e c,ds=>some (.row e c,ds)
 |.arr e c full,⟨c',x⟩::ds=>match decEq c' (.sl c)with|isTrue h=>some (.arr e c full (show List (T S c) from(h▸x:T S (.sl c))),ds)|isFalse _=>none
 |.arr _ _ _,[]=>none
 |.loop r st Q6,ds=>(uC tb ids 300 Q6 ds).map fun p=>(.loop r st p.1,p.2)
 |.map t kc vc,⟨c',x⟩::ds=>match decEq c' (.mp kc vc)with|isTrue h=>some (.map t kc vc (show List (T S kc×T S vc) from(h▸x:T S (.mp kc vc))) none,ds)|isFalse _=>none
 |.map _ _ _,[]=>none
 |.qE t et kc c,⟨c',x⟩::ds=>match decEq c' (.mp kc (.sl c))with|isTrue h=>some (.qE t et kc c (show List (T S kc×List (T S c)) from(h▸x:T S (.mp kc (.sl c)))) none,ds)|isFalse _=>none
 |.qE _ _ _ _,[]=>none
 |.lD t kc vc q,⟨c',x⟩::ds=>match decEq c' (.mp kc vc)with|isTrue h=>some (.lD t kc vc (show List (T S kc×T S vc) from(h▸x:T S (.mp kc vc))) none (ids q),ds)|isFalse _=>none
 |.lD _ _ _ _,[]=>none
 |.sD kc o,ds=>some (.sD kc (ids o) (some none),ds)
def OS.eS(ids:Nat->Nat):List OS->List (ic S)->Option (List (AO S)×List (ic S))
 |[],ds=>some ([],ds)
 |s::l,ds=>(OS.fill tb ids s ds).bind fun p=>(OS.eS ids l p.2).map fun q=>(p.1::q.1,q.2)
def Xu(mp:List (Nat×Nat))(o q:Nat):Option (List (Nat×Nat)):=match look o mp with
 |some r=>match Nat.beq r q with|true=>some mp|false=>none
 |none=>match(mp.any fun p=>Nat.beq p.2 q)||!Nat.ble o 200 with|true=>none|false=>some ((o,q)::mp)
variable (S) in
abbrev Tk:=List (ic S)×List (CV S)×List (Nat×Nat)
mutual
def CS.take(mp:List (Nat×Nat)):CS->List (CV S)->Option (Tk S)
 |.eX c,vs=>(pk tb c vs).map fun p=>([⟨c,p.1⟩],p.2,mp)
 |.rw o c,.rw q d l::vs=>match decEq d c with|isTrue h=>(Xu mp o q).map fun mp=>([⟨.sl c,ng h l⟩],vs,mp)|isFalse _=>none
 |.aw o,.aw q::vs=>(Xu mp o q).map fun mp=>([],vs,mp)
 |.ptr o off,.ptr q off'::vs=>match Nat.beq off off' with|true=>(Xu mp o q).map fun mp=>([],vs,mp)|false=>none
 |.kG,.kG::vs=>some ([],vs,mp)
 |.fB,.fB::vs=>some ([],vs,mp)
 |.tt b,.tt c::vs=>(match b == c with|true=>some ([],vs,mp)|false=>none)
 |.fg,.fg::vs=>some ([],vs,mp)
 |.yl o,.yl q::vs=>(Xu mp o q).map fun mp=>([],vs,mp)
 |.mpo o,.mp q::vs=>(Xu mp o q).map fun mp=>([],vs,mp)
 |.fn f xs ys,.fn (.func g) first caps::vs=>match Nat.beq f g&&(first.all nag&&caps.all nag)with
  |true=>(CS.takes mp xs first).bind fun p=>match p.2.1 with
   |[]=>(CS.takes p.2.2 ys caps).bind fun q=>match q.2.1 with| []=>some (p.1++q.1,vs,q.2.2)|_::_=>none
   |_::_=>none
  |false=>none
 |_,_=>none
def CS.takes(mp:List (Nat×Nat)):List CS->List (CV S)->Option (Tk S)
 |[],vs=>some ([],vs,mp)
 |s::l,vs=>(CS.take mp s vs).bind fun p=>(CS.takes p.2.2 l p.2.1).map fun q=>(p.1++q.1,q.2.1,q.2.2)
end
mutual
def PS.take(mp:List (Nat×Nat)):PS->AV S->Option (List (ic S)×List (Nat×Nat))
 |.one s,.one v=>(CS.take tb mp s [v]).bind fun p=>match p.2.1 with| []=>some (p.1,p.2.2)|_::_=>none
 |.agg l,.agg vs=>(CS.takes tb mp l vs).bind fun p=>match p.2.1 with| []=>some (p.1,p.2.2)|_::_=>none
 |.dD l,.dD vs=>PS.takes mp l vs
 |_,_=>none
def PS.takes(mp:List (Nat×Nat)):List PS->List (AV S)->Option (List (ic S)×List (Nat×Nat))
 |[],[]=>some ([],mp)
 |s::l,v::vs=>(PS.take mp s v).bind fun p=>(PS.takes p.2 l vs).map fun q=>(p.1++q.1,q.2)
 |_,_=>none
end
def nD(tm:List (Nat×Nat×AV S))(mp:List (Nat×Nat)):List (Nat×PS)->Option (List (ic S)×List (Nat×Nat))
 |[]=>some ([],mp)
 |(t,s)::l=>(look t tm).bind fun a=>(PS.take tb mp s a.2).bind fun p=>(nD tm p.2 l).map fun r=>(p.1++r.1,r.2)
def OS.take(mp:List (Nat×Nat)):OS->AO S->Option (List (ic S)×List (Nat×Nat))
 |.box T l,.box T' vs=>match Nat.beq T T' with
  |true=>(CS.takes tb mp l vs).bind fun p=>match p.2.1 with| []=>some (p.1,p.2.2)|_::_=>none
  |false=>none
 |.row e c,.row e' c'=>match Nat.beq e e',decEq c c' with|true,isTrue _=>some ([],mp)|_,_=>none
 |.arr e c full,.arr e' c' full' l=>match Nat.beq e e',decEq c' c,!full||full' with|true,isTrue h,true=>some ([⟨.sl c,ng h l⟩],mp)|_,_,_=>none
 |.loop r st Q6,.loop r' st' tm=>match Nat.beq r r'&&LS.same st st' with|true=>nD tb tm mp Q6|false=>none
 |.map t kc vc,.map t' kc' vc' l none=>match Nat.beq t t',decEq kc' kc,decEq vc' vc with|true,isTrue h,isTrue k=>some ([⟨.mp kc vc,iH h k l⟩],mp)|_,_,_=>none
 |.qE t et kc c,.qE t' et' kc' c' l none=>match Nat.beq t t'&&Nat.beq et et',decEq kc' kc,decEq c' c with|true,isTrue h,isTrue k=>some ([⟨.mp kc (.sl c),AJ h k l⟩],mp)|_,_,_=>none
 |.lD t kc vc q,.lD t' kc' vc' l none q'=>match Nat.beq t t',decEq kc' kc,decEq vc' vc with|true,isTrue h,isTrue k=>(Xu mp q q').map fun mp=>([⟨.mp kc vc,iH h k l⟩],mp)|_,_,_=>none
 |.sD kc o,.sD kc' o' _=>match decEq kc' kc with|isTrue _=>(Xu mp o o').map fun mp=>([],mp)|isFalse _=>none
 |_,_=>none
def OS.takes(ob:List (Nat×Nat×AO S))(mp:List (Nat×Nat)):Nat->List OS->Option (List (ic S)×List (Nat×Nat))
 |_,[]=>some ([],mp)
 |o,s::l=>(look o mp).bind fun q=>(look q ob).bind fun a=>(OS.take tb mp s a.2).bind fun p=>(OS.takes ob p.2 (o+1) l).map fun r=>(p.1++r.1,r.2)
def qB:(ls:List Co)->HT S ls->List (ic S)
 |[],_=>[]
 |[c],x=>[⟨c,x⟩]
 |c::d::cs,x=>⟨c,x.1⟩::qB (d::cs) x.2
def su:(ls:List Co)->List (ic S)->Option (HT S ls)
 |[],[]=>some ()
 |[c],[⟨c',x⟩]=>match decEq c' c with|isTrue h=>some (h▸x)|isFalse _=>none
 |c::d::cs,⟨c',x⟩::ds=>match decEq c' c with|isTrue h=>(su (d::cs) ds).map fun y=>(h▸x,y)|isFalse _=>none
 |_,_=>none
def FQ{α:Type}(l:List α):List Nat->Option (List α)
 |[]=>some []
 |i::is=>(l[i]?).bind fun x=>(FQ l is).map (x:: ·)
def ni(pm:List Nat)(ds:List (ic S)):Option (List (ic S)):=match pm with
 |[]=>some ds
 |_::_=>match Nat.beq ds.length pm.length with|true=>FQ ds pm|false=>none
def PZ:List Nat->List Nat->Bool
 |[],[]=>true
 |x::l,y::l'=>Nat.beq x y&&PZ l l'
 |_,_=>false
def J2(pm bk:List Nat):Bool:=match pm,bk with
 |[],[]=>true
 |_::_,_::_=>Nat.beq pm.length bk.length&&(match FQ pm bk with|some l=>PZ l (List.range bk.length)|none=>false)
 |_,_=>false
inductive Ye where
 |own (e:TypeId) (c:Co)
 |arr (e:TypeId) (c:Co)
 |frz
structure JA where
 Q6:List (Nat×PS):=[]
 fm:List OS:=[]
 ls:List Co:=[]
 pm:List Nat:=[]
 bk:List Nat:=[]
 fx:List (Nat×Nat):=[]
 gone:List Nat:=[]
 kill:List Nat:=[]
 pre:List (Nat×Nat×Ye):=[]
 early:Bool:=false
 X1:J2 pm bk=true:=by rfl
 uB:(Nat.ble Q6.length 190&&Nat.ble fm.length 190)=true:=by rfl
def has(t:Nat):List Nat->Bool
 |[]=>false
 |u::l=>match Nat.beq u t with|true=>true|false=>has t l
def rK(J:JA):List (Nat×Nat×AV S)->List (Nat×Nat×AV S)
 |[]=>[]
 |(t,x)::l=>match has t J.kill||J.Q6.any fun p=>Nat.beq p.1 t with|true=>rK J l|false=>(t,x)::rK J l
mutual
def CV.ids:CV S->List Nat
 |.rw o _ _=>[o]
 |.aw o=>[o]
 |.ptr o _=>[o]
 |.KG o _ _ _ _ _=>[o]
 |.Sd o _ _ _=>[o]
 |.px o _ _ _ _=>[o]
 |.yl o=>[o]
 |.mp o=>[o]
 |.Xo o _=>[o]
 |.Wq o=>[o]
 |.rz o _ _=>[o]
 |.pt o _ _ _=>[o]
 |.fn _ xs ys=>CV.G1 xs++CV.G1 ys
 |.ag xs=>CV.G1 xs
 |_=>[]
def CV.G1:List (CV S)->List Nat
 |[]=>[]
 |v::vs=>CV.ids v++CV.G1 vs
end
mutual
def AV.ids:AV S->List Nat
 |.one v=>v.ids
 |.agg vs=>CV.G1 vs
 |.dD vs=>AV.G1 vs
def AV.G1:List (AV S)->List Nat
 |[]=>[]
 |v::vs=>AV.ids v++AV.G1 vs
end
def AO.ids:AO S->List Nat
 |.box _ vs=>CV.G1 vs
 |.lD _ _ _ _ _ q=>[q]
 |.sD _ o _=>[o]
 |_=>[]
def KQ(xs ys:List Nat):List Nat:=xs.foldl (fun l x=>match has x l with|true=>l|false=>x::l) ys
def TH(ob:List (Nat×Nat×AO S)):Nat->List Nat->List Nat
 |0,l=>l
 |n+1,l=>TH ob n (l.foldl (fun r x=>match look x ob with|some a=>KQ a.2.ids r|none=>r) l)
def De(r:List Nat):List (Nat×Nat×AO S)->List (Nat×Nat×AO S)
 |[]=>[]
 |(q,x)::l=>match has q r with|true=>(q,x)::De r l|false=>De r l
def dH(rm:List Nat):List (Nat×Nat×AO S)->List (Nat×Nat×AO S)
 |[]=>[]
 |(q,x)::l=>match has q rm with|true=>dH rm l|false=>(q,x)::dH rm l
def xF(J:JA)(σ:AS S):List (Nat×Nat×AO S):=
 dH ((J.fx.filter fun r=>Nat.ble (r.1+1) J.fm.length).map (·.2)++J.gone) (De (TH σ.ob 4 (KQ σ.rt ((rK J σ.tm).foldl (fun r x=>KQ x.2.2.ids r) []))) σ.ob)
def HD(tm:List (Nat×Nat×AV S)):List (Nat×Nat×AV S)->Bool
 |[]=>true
 |(t,x)::l=>(match look t tm with|some y=>Nat.beq x.1 y.1|none=>false)&&HD tm l
def HB(ob:List (Nat×Nat×AO S)):List (Nat×Nat×AO S)->Bool
 |[]=>true
 |(t,x)::l=>(match look t ob with|some y=>Nat.beq x.1 y.1|none=>false)&&HB ob l
def zQ(mp:List (Nat×Nat)):Nat->Nat->List Nat
 |_,0=>[]
 |o,n+1=>match look o mp with|some q=>q::zQ mp (o+1) n|none=>zQ mp (o+1) n
def gD:List Nat->Bool
 |[]=>true
 |x::l=>match has x l with|true=>false|false=>gD l
def place(σ:AS S)(t i:Nat):Option (CV S):=match look t σ.tm with
 |some (_,.one v)=>(match i with
  |0=>some v
  |i+1=>match v with| .ptr o _=>(match look o σ.ob with|some (_,.box _ cs)=>cs[i]?|_=>none)|_=>none)
 |some (_,.agg vs)=>(match i with|0=>none|i+1=>vs[i]?)
 |_=>none
def tV(σ:AS S)(t i:Nat)(w:CV S):AS S:=match look t σ.tm with
 |some (bT,.one v)=>(match i with
  |0=>{σ with tm:=(t,bT,.one w)::qz t σ.tm,ct:=σ.ct+64}
  |i+1=>match v with| .ptr o _=>(match look o σ.ob with|some (_,.box T cs)=>{σ with ob:=(o,σ.ct+32,.box T (cs.set i w))::dH [o] σ.ob,ct:=σ.ct+64}|_=>σ)|_=>σ)
 |some (bT,.agg vs)=>(match i with|0=>σ|i+1=>{σ with tm:=(t,bT,.agg (vs.set i w))::qz t σ.tm,ct:=σ.ct+64})
 |_=>σ
def IJ(σ:AS S)(q:Nat)(a:AO S):AS S:={σ with ob:=(q,σ.ct+32,a)::σ.ob,ct:=σ.ct+64}
def Ty(σ:AS S)(t i:Nat)(k:Ye):Option (AS S):=match place σ t i,k with
 |some .fg,.own e c=>some (IJ (tV {σ with ct:=σ.ct+64} t i (.rw (σ.ct+1) c [])) (σ.ct+1) (.row e c))
 |some .fg,.arr e c=>some (IJ (tV {σ with ct:=σ.ct+64} t i (.aw (σ.ct+1))) (σ.ct+1) (.arr e c true []))
 |some (.aw o),.frz=>(look o σ.ob).bind fun a=>match a.2 with
  |.arr _ c _ l=>(match place {σ with ob:=dH [o] σ.ob} t i with
   |some (.aw o')=>(match Nat.beq o' o with|true=>some (tV {σ with ob:=dH [o] σ.ob} t i (.sl c l))|false=>none)
   |_=>none)
  |_=>none
 |some _,_=>some σ
 |none,_=>none
def EW:List (Nat×Nat×Ye)->AS S->Option (AS S)
 |[],σ=>some σ
 |(t,i,k)::l,σ=>(Ty σ t i k).bind (EW l)
def pack(J:JA)(σ0 σ:AS S):Option (HT S J.ls):=(EW J.pre σ).bind fun σ=>
 match HD σ.tm (rK J σ0.tm)&&HB σ.ob (xF J σ0)&&Nat.beq σ.fb σ0.fb&&(J.fx.all fun r=>(look r.2 σ0.ob).isSome&&Nat.ble r.1 200)&&gD (J.fx.map (·.2))with
 |true=>(nD tb σ.tm J.fx J.Q6).bind fun p=>(OS.takes tb σ.ob p.2 0 J.fm).bind fun q=>
  match gD (zQ q.2 0 J.fm.length++(xF J σ0).map (·.1))with
  |true=>(ni J.pm (p.1++q.1)).bind (su J.ls)
  |false=>none
 |false=>none
def L8(ids:Nat->Nat)(o v:Nat):List (AO S)->List (Nat×Nat×AO S)
 |[]=>[]
 |a::l=>(ids o,v,a)::L8 ids (o+1) (v+1) l
def JA.ids(J:JA)(ct o:Nat):Nat:=match look o J.fx with|some q=>q|none=>ct+o
def JP(v:Nat):List (AO S)->List (Nat×Nat×AO S)
 |[]=>[]
 |a::l=>(v,v,a)::JP (v+1) l
def unpack(J:JA)(σ0:AS S)(z:HT S J.ls):Option (AS S):=
 (ni J.bk (qB J.ls z)).bind fun ds=>
 (uC tb (J.ids σ0.ct) (σ0.ct+64) J.Q6 ds).bind fun p=>
 (OS.eS tb (J.ids σ0.ct) J.fm p.2).bind fun q=>
 some {σ0 with tm:=p.1++rK J σ0.tm,ob:=L8 (J.ids σ0.ct) 0 σ0.ct q.1++xF J σ0,ct:=σ0.ct+256}
inductive KS where
 |kept
 |now (s:OS)
 |gone
structure Out where
 out:PS
 gu:List KS:=[]
 vm:List Co
 pm':List Nat:=[]
 Iu:List Nat:=[]
 acp:J2 pm' Iu=true:=by rfl
 uB:Nat.ble gu.length 30=true:=by rfl
variable (S) in
def jo:List Out->Type
 |[]=>Empty
 |[o]=>HT S o.vm
 |o::p::os=>HT S o.vm⊕jo (p::os)
def aak{γ:Type}(k:(o:Out)->HT S o.vm->Option γ):(os:List Out)->jo S os->Option γ
 |[],_=>none
 |[o],y=>k o y
 |o::p::os,y=>@Sum.elim (HT S o.vm) (jo S (p::os)) (Option γ) (k o) (aak k (p::os)) y
def Vu{γ:Type}(os:List Out)(y:jo S os)(k:(o:Out)->HT S o.vm->Option γ):Option γ:=aak k os y
def Cg:(os:List Out)->jo S os->((o:Out)->HT S o.vm->Prop)->Prop
 |[],_,_=>False
 |[o],y,p=>p o y
 |o::_::_,Sum.inl z,q=>q o z
 |_::p::os,Sum.inr z,q=>Cg (p::os) z q
variable (S) in
structure dS where
 f:FuncId
 ins:List PS
 fm:List OS:=[]
 ls:List Co
 pm:List Nat:=[]
 bk:List Nat:=[]
 outs:List Out
 X1:J2 pm bk=true:=by rfl
 uB:(Nat.ble fm.length 30&&outs.all fun o=>Nat.ble fm.length o.gu.length)=true:=by rfl
 uU:HT S ls->Option (jo S outs)
variable (S) in
structure NC where
 f:FuncId
 ins:List PS
 fm:List OS:=[]
 ls:List Co
 pm:List Nat:=[]
 bk:List Nat:=[]
 out:Out
 X1:J2 pm bk=true:=by rfl
 uB:(Nat.ble fm.length 30&&Nat.ble fm.length out.gu.length)=true:=by rfl
 Xf:(γ:Type)->(HT S out.vm->Option γ)->HT S ls->Option γ
variable (S) in
structure ia where
 v:AV S
 rd:List Nat:=[]
 rm:List Nat:=[]
 add:List (Nat×AO S):=[]
def val(v:CV S):ia S:={v:=.one v}
def OS.outs(ids:Nat->Nat):Nat->List KS->List (ic S)->Option (List (Nat×AO S))
 |_,[],[]=>some []
 |_,[],_::_=>none
 |o,.now s::l,ds=>(OS.fill tb ids s ds).bind fun p=>(OS.outs ids (o+1) l p.2).map fun q=>(ids o,p.1)::q
 |o,_::l,ds=>OS.outs ids (o+1) l ds
def oZ(mp:List (Nat×Nat))(ct:Nat)(o:Nat):Nat:=match look o mp with|some q=>q|none=>ct+1+o
def KS.isK:KS->Bool
 |.kept=>true
 |_=>false
def eZ(mp:List (Nat×Nat))(k:Bool):Nat->List KS->List Nat
 |_,[]=>[]
 |o,s::l=>match look o mp with
  |some q=>match s.isK == k with|true=>q::eZ mp k (o+1) l|false=>eZ mp k (o+1) l
  |none=>eZ mp k (o+1) l
variable (S) in
structure FA where
 IV:List TypeId:=[]
 lits:List TypeId:=[]
 parts:List TypeId:=[]
 takes:List TypeId:=[]
 pre:List (Nat×Nat×Ye):=[]
 fn:Nat:=0
 rd:Bool:=false
 nd:List (NC S):=[]
 deriving Inhabited
def Z4(r:Nat):Nat:=1000000+r
def VK(b:Bool):Option Unit:=match b with|true=>some ()|false=>none
section
variable {γ:Type}(tt:TypeId->Option (TI S))(Φ:List (dS S))(fa:FA S)
def o8(f:FuncId)(args:List (AV S))(ob:List (Nat×Nat×AO S))(ct:Nat)(k:ia S->Option γ):List (dS S)->Option γ
 |[]=>none
 |c::cs=>match Nat.beq c.f f with
  |false=>o8 f args ob ct k cs
  |true=>match(PS.takes tb [] c.ins args).bind fun p=>(OS.takes tb ob p.2 0 c.fm).bind fun q=>(ni c.pm (p.1++q.1)).bind fun ds=>(su c.ls ds).map fun x=>(x,q.2)with
   |none=>o8 f args ob ct k cs
   |some (x,mp)=>(c.uU x).bind fun y=>Vu c.outs y fun o z=>
    match(VK (mp.all fun p=>Nat.ble (p.1+1) c.fm.length)).bind fun _=>(ni o.Iu (qB o.vm z)).bind fun ds=>(PS.fill tb (oZ mp ct) o.out ds).bind fun p=>(OS.outs tb (oZ mp ct) 0 o.gu p.2).map fun l=>(p.1,l)with
    |some (v,l)=>k {v:=v,rd:=eZ mp true 0 o.gu,rm:=eZ mp false 0 o.gu,add:=l}
    |none=>none
def mb(f:FuncId)(args:List (AV S))(ob:List (Nat×Nat×AO S))(ct:Nat)(k:ia S->Option γ):List (NC S)->Option γ
 |[]=>none
 |c::cs=>match Nat.beq c.f f with
  |false=>mb f args ob ct k cs
  |true=>match(PS.takes tb [] c.ins args).bind fun p=>(OS.takes tb ob p.2 0 c.fm).bind fun q=>(ni c.pm (p.1++q.1)).bind fun ds=>(su c.ls ds).map fun x=>(x,q.2)with
   |none=>mb f args ob ct k cs
   |some (x,mp)=>(VK ((mp.all fun p=>Nat.ble (p.1+1) c.fm.length)&&gD (eZ mp true 0 c.out.gu++eZ mp false 0 c.out.gu))).bind fun _=>c.Xf γ (fun z=>
    match(ni c.out.Iu (qB c.out.vm z)).bind fun ds=>(PS.fill tb (oZ mp ct) c.out.out ds).bind fun p=>(OS.outs tb (oZ mp ct) 0 c.out.gu p.2).map fun l=>(p.1,l)with
    |some (v,l)=>k {v:=v,rd:=eZ mp true 0 c.out.gu,rm:=eZ mp false 0 c.out.gu,add:=l}
    |none=>none) x
def abk(o:Oper)(xs:List (AV S)):Option (FuncId×List (AV S)):=match o.op with
 |.call c=>(match c.callee,xs with
  |.value _,.one (.fn (.func f) first caps)::args=>(match(fa.nd.any fun c=>Nat.beq c.f f)&&Nat.ble f 999999 with|true=>some (f,first.map yL++args++caps.map yL)|false=>none)
  |_,_=>none)
 |_=>none
def WG(sq:Bool)(o:Oper)(xs:List (AV S)):Option (FuncId×List (AV S)):=match sq with
 |true=>abk fa o xs
 |false=>none
def gU(t:TypeId):Option (TypeId×Co):=(tt t).bind fun i=>match i.d,i.co with| .slice e,.sl c=>some (e,c)|_,_=>none
def uI(i:TI S)(vs:Option (List (CV S)))(one:Option (CV S))(rd:List Nat)(k:ia S->Option γ):Option γ:=match fu i.d with
 |true=>vs.bind fun vs=>k {v:=.agg vs,rd:=rd}
 |false=>one.bind fun v=>k {v:=.one v,rd:=rd}
def Fz(t:TypeId)(v:CV S)(ob:List (Nat×Nat×AO S))(k:ia S->Option γ):Option γ:=
 (tt t).bind fun i=>match v with
 |.ptr o off=>(look o ob).bind fun a=>match a.2 with
  |.box _ cs=>uI i ((cutAt off cs).bind (qx i.size)) (ta off cs) [o] k
  |_=>none
 |.el c x off=>uI i ((cutAt off (Q7 tb c x)).bind (qx i.size)) (ta off (Q7 tb c x)) [] k
 |.KG o v c x _ off=>(look o ob).bind fun a=>match Nat.beq a.1 v with
  |true=>uI i ((cutAt off (Q7 tb c x)).bind (qx i.size)) (ta off (Q7 tb c x)) [o] k
  |false=>none
 |.Sd o off n j=>(look o ob).bind fun a=>match a.2,fu i.d with
  |.box _ cs,false=>(cutAt off cs).bind fun cs=>match cs with
   |.a8 n' f::_=>match Nat.beq n n' with|true=>k {v:=.one (.u8 (ry f j)),rd:=[o]}|false=>none
   |.ai n' kk f::_=>match Nat.beq n n' with|true=>k {v:=.one (.int kk (ry f j)),rd:=[o]}|false=>none
   |_=>none
  |_,_=>none
 |_=>none
def wm:Nat->CV S->List (CV S)->Option (List (CV S))
 |_,_,[]=>none
 |0,x,_::vs=>some (x::vs)
 |o+1,x,v::vs=>match Nat.ble v.n (o+1)with|true=>(wm (o+1-v.n) x vs).map (v:: ·)|false=>none
def TE(o n:Nat)(xs vs:List (CV S)):Option (List (CV S)):=match Nat.beq (ME xs) n with
 |true=>(match xs,Nat.beq n 1 with| [x],true=>TB o x vs|xs,_=>ZF o n xs vs)
 |false=>none
def Ai(t:TypeId)(p:CV S)(a:AV S)(ob:List (Nat×Nat×AO S))(k:ia S->Option γ):Option γ:=
 (tt t).bind fun i=>(o9 a).bind fun xs=>
 match p with
 |.ptr o off=>(look o ob).bind fun b=>match b.2 with
  |.box T cs=>(TE off i.size xs cs).bind fun cs'=>k {v:=AV.gH S,rm:=[o],add:=[(o,.box T cs')]}
  |_=>none
 |.KG o v c x j off=>(look o ob).bind fun b=>match Nat.beq b.1 v with
  |true=>match b.2 with
   |.arr e c' full l=>(TE off i.size xs (Q7 tb c x)).bind fun cs'=>(BU tb c' cs').bind fun u=>
    k {v:=AV.gH S,rm:=[o],add:=[(o,.arr e c' full (l.set j.toNat u))]}
   |_=>none
  |false=>none
 |.Sd o off n j=>(look o ob).bind fun b=>match b.2,Nat.beq i.size 1 with
  |.box T cs,true=>(cutAt off cs).bind fun cs1=>(match cs1,xs with
   |.a8 n' f::_,[.u8 y]=>(match Nat.beq n n' with|true=>wm off (.a8 n' (tU f j y)) cs|false=>none)
   |.ai n' kk f::_,[.int k' y]=>(match Nat.beq n n',decEq k' kk with|true,isTrue _=>wm off (.ai n' kk (tU f j y)) cs|_,_=>none)
   |_,_=>none).bind fun cs'=>k {v:=AV.gH S,rm:=[o],add:=[(o,.box T cs')]}
  |_,_=>none
 |_=>none
def idxOf(v:AV S):Option Int:=match v with| .one v=>(num v).map (·.2)|_=>none
def zu(t:TypeId)(y:Operand)(v:CV S)(i:Int)(ob:List (Nat×Nat×AO S))(k:ia S->Option γ):Option γ:=
 match v with
 |.ptr o off=>(tt t).bind fun ti=>match ti.d with
  |.array n e=>(tt e).bind fun ei=>match Nat.beq ei.size 1 with
   |true=>(match y with
    |.const (.int _ j)=>(match decide (0<=j)&&decide (j<n)with|true=>k (val (.ptr o (off+j.toNat)))|false=>none)
    |_=>(nW (0<=i/\i<n)).bind fun _=>k (val (.Sd o off n i)))
   |false=>none
  |_=>none
 |v=>(gU tt t).bind fun ec=>match v with
  |.aw o=>(look o ob).bind fun a=>match a.2 with
   |.arr _ c' _ l=>(match decEq c' ec.2 with
    |isTrue _=>(idx l i).bind fun x=>k {v:=.one (.KG o a.1 c' x i 0),rd:=[o]}
    |isFalse _=>none)
   |_=>none
  |v=>(Xj ec.2 v).bind fun l=>(idx l i).bind fun x=>k (val (.el ec.2 x 0))
def oU:Option Operand->List (AV S)->Option (Option Int×List (AV S))
 |none,vs=>some (none,vs)
 |some _,v::vs=>(idxOf v).map fun i=>(some i,vs)
 |some _,[]=>none
def Y7:CV S->Bool
 |.fg=>true
 |_=>false
def Za:Option Int->Option Int->Option Int->Bool
 |none,some _,none=>true
 |_,_,_=>false
def aay(c:Co)(v:CV S)(l:List (T S c)):CV S:=match v with
 |.rw o d _=>(match decEq d c with|isTrue _=>.rw o c l|isFalse _=>.sl c l)
 |_=>.sl c l
def wx(t:TypeId)(v:CV S)(lo hi mx:Option Int)(ob:List (Nat×Nat×AO S))(ct:Nat)(k:ia S->Option γ):Option γ:=
 (gU tt t).bind fun ec=>match v with
 |.aw o=>(look o ob).bind fun a=>match a.2,lo,hi,mx with
  |.arr e c _ l,some i,none,none=>(match decEq c ec.2 with
   |isTrue _=>(jP l i).bind fun l'=>k {v:=.one (.aw (ct+1)),rm:=[o],add:=[(ct+1,.arr e c false l')]}
   |isFalse _=>none)
  |.arr e c full l,none,some j,none=>(match decEq c ec.2 with
   |isTrue _=>(qO l j).bind fun l'=>k {v:=.one (.aw (ct+1)),rm:=[o],add:=[(ct+1,.arr e c full l')]}
   |isFalse _=>none)
  |_,_,_,_=>none
 |.rz o c _=>(match lo,hi,mx with
  |none,some j,none=>(match decide (j=0)with|true=>k {v:=.one (.rw o c []),rd:=[o]}|false=>none)
  |_,_,_=>none)
 |v=>match Y7 v&&Za lo hi mx with
  |true=>(match decide (hi=some 0)with|true=>k (val .fg)|false=>none)
  |false=>(Xj ec.2 v).bind fun l=>match lo,hi,mx with
  |some i,none,none=>(jP l i).bind fun l'=>k (val (aay ec.2 v l'))
  |none,some j,none=>(qO l j).bind fun l'=>k (val (.sl ec.2 l'))
  |some i,some j,none=>(tX l i j).bind fun l'=>k (val (.sl ec.2 l'))
  |none,some j,some m=>(nW (m=j)).bind fun _=>(qO l j).bind fun l'=>k (val (.Xi ec.2 l'))
  |_,_,_=>none
def F1(t:TypeId)(l:List UInt8)(lo hi mx:Option Int)(k:ia S->Option γ):Option γ:=(tt t).bind fun ti=>match ti.d,mx with
 |.str,none=>(tX l (lo.getD 0) (hi.getD l.length)).bind fun l'=>k (val (.str l'))
 |_,_=>none
def um(t:TypeId)(v w:CV S)(ob:List (Nat×Nat×AO S))(ct:Nat)(k:ia S->Option γ):Option γ:=
 (gU tt t).bind fun ec=>(tt ec.1).bind fun ei=>(Xj ec.2 w).bind fun l'=>match v with
  |.fg=>(app ei.bytes [] l').bind fun l2=>match has t fa.IV with
   |true=>k {v:=.one (.aw (ct+1)),add:=[(ct+1,.arr ec.1 ec.2 true l2)]}
   |false=>k {v:=.one (.rw (ct+1) ec.2 l2),add:=[(ct+1,.row ec.1 ec.2)]}
  |.rw o d l=>(look o ob).bind fun a=>match a.2,decEq d ec.2 with
   |.row e' d',isTrue h=>(match Nat.beq e' ec.1,decEq d' ec.2 with
    |true,isTrue _=>(app ei.bytes (ng h l) l').bind fun l2=>k {v:=.one (.rw (ct+1) ec.2 l2),rm:=[o],add:=[(ct+1,.row ec.1 ec.2)]}
    |_,_=>none)
   |_,_=>none
  |.aw o=>(look o ob).bind fun a=>match a.2 with
   |.arr e' d true l=>(match Nat.beq e' ec.1,decEq d ec.2 with
    |true,isTrue h=>(app ei.bytes (ng h l) l').bind fun l2=>k {v:=.one (.aw (ct+1)),rm:=[o],add:=[(ct+1,.arr ec.1 ec.2 true l2)]}
    |_,_=>none)
   |_=>none
  |.Xi d l=>(match decEq d ec.2 with
   |isTrue h=>(app ei.bytes (ng h l) l').bind fun l2=>k (val (.sl ec.2 l2))
   |isFalse _=>none)
  |_=>none
def FP(t:TypeId)(v:CV S)(lo hi mx:Option Int)(ob:List (Nat×Nat×AO S))(ct:Nat)(k:ia S->Option γ):Option γ:=match v with
 |.aw o=>(gU tt t).bind fun ec=>(look o ob).bind fun a=>match a.2,lo,hi,mx with
  |.arr _ c _ l,some i,none,none=>(match decEq c ec.2 with
   |isTrue _=>(nW (0<=i/\i<=(l.length:Int))).bind fun _=>k {v:=.one (.pt o ec.2 i ((l.length:Int)-i)),rd:=[o]}
   |isFalse _=>none)
  |.arr _ c _ l,some i,some j,none=>(match decEq c ec.2 with
   |isTrue _=>(nW (0<=i/\i<=j/\j<=(l.length:Int))).bind fun _=>k {v:=.one (.pt o ec.2 i (j-i)),rd:=[o]}
   |isFalse _=>none)
  |_,_,_,_=>none
 |v=>wx tt t v lo hi mx ob ct k
def ZN(o:Nat)(s:CV S)(l:List UInt8):Option (List UInt8):=match s with
 |.pt o' c off n=>(match Nat.beq o' o,decEq c .u8 with
  |true,isTrue _=>some ((l.drop off.toNat).take n.toNat)
  |_,_=>none)
 |s=>Xj .u8 s
def uX(t:TypeId)(o off:Nat)(lo hi mx:Option Int)(k:ia S->Option γ):Option γ:=
 (tt t).bind fun ti=>match ti.d,mx with
  |.array n e,none=>(tt e).bind fun ei=>(match Nat.beq ei.size 1 with
   |true=>(nW (0<=lo.getD 0/\lo.getD 0<n/\lo.getD 0<=hi.getD n/\hi.getD n<=n)).bind fun _=>k (val (.px o off n (lo.getD 0) (hi.getD n)))
   |false=>none)
  |_,_=>none
def Gx(ec:TypeId×Co)(o off n:Nat)(i j:Int)(s:CV S)(ob:List (Nat×Nat×AO S))(k:ia S->Option γ):Option γ:=match s,ec.2 with
 |.px o' off' n' i' j',.int _=>(match Nat.beq o' o&&(Nat.beq off' off&&Nat.beq n' n)with
  |true=>(look o ob).bind fun a=>(match a.2 with
   |.box T cs=>(cutAt off cs).bind fun cs1=>(match cs1 with
    |.ai n1 kk f::_=>(match Nat.beq n1 n with
     |true=>(wm off (.ai n kk (JM f i.toNat i'.toNat (ib (j-i) (j'-i')).toNat)) cs).bind fun cs'=>k {v:=.one (.int .i64 (ib (j-i) (j'-i'))),rm:=[o],add:=[(o,.box T cs')]}
     |false=>none)
    |_=>none)
   |_=>none)
  |false=>none)
 |s,.u8=>(Xj .u8 s).bind fun l=>(look o ob).bind fun a=>(match a.2 with
  |.box T cs=>(cutAt off cs).bind fun cs1=>(match cs1 with
   |.a8 n1 f::_=>(match Nat.beq n1 n with
    |true=>(wm off (.a8 n (XJ f i.toNat (ib (List.length (α:=UInt8) l:Int) (j-i)).toNat l)) cs).bind fun cs'=>k {v:=.one (.int .i64 (ib (List.length (α:=UInt8) l:Int) (j-i))),rm:=[o],add:=[(o,.box T cs')]}
    |false=>none)
   |_=>none)
  |_=>none)
 |_,_=>none
def uW(t:TypeId)(o off:Nat)(lo hi mx:Option Int)(ob:List (Nat×Nat×AO S))(k:ia S->Option γ):Option γ:=
 (tt t).bind fun ti=>match ti.d,lo,hi,mx,off with
  |.array n e,none,none,none,0=>(tt e).bind fun ei=>(look o ob).bind fun a=>(match a.2 with
   |.box _ [.a8 n1 f]=>(match Nat.beq n1 n&&(Nat.beq ei.size 1&&(Nat.ble 1 n&&Nat.ble n 4096))with
    |true=>k {v:=.one (.sl .u8 (lb (α:=UInt8) n f)),rm:=[o]}
    |false=>none)
   |_=>none)
  |_,_,_,_,_=>none
def Fa(t:TypeId)(d s:CV S)(ob:List (Nat×Nat×AO S))(k:ia S->Option γ):Option γ:=
 (gU tt t).bind fun ec=>match d with
  |.pt o c off n=>(look o ob).bind fun a=>match a.2 with
   |.arr e c' full l=>(match decEq c' .u8,decEq c .u8,decEq ec.2 .u8 with
    |isTrue h,isTrue _,isTrue _=>(ZN o s (ng h l)).bind fun x=>k {v:=.one (.int .i64 (ib (x.length:Int) n)),rm:=[o],add:=[(o,.arr e .u8 full (Vm (α:=UInt8) (ng h l) off.toNat (x.take n.toNat)))]}
    |_,_,_=>none)
   |_=>none
  |.px o off n i j=>Gx ec o off n i j s ob k
  |_=>none
def pxL(o off n:Nat)(i j:Int)(ob:List (Nat×Nat×AO S)):Option (List UInt8):=(look o ob).bind fun a=>match a.2 with
 |.box _ cs=>(cutAt off cs).bind fun cs1=>(match cs1 with
  |.a8 n1 f::_=>(match Nat.beq n1 n with|true=>some (((lb n f).drop i.toNat).take (j-i).toNat)|false=>none)
  |_=>none)
 |_=>none
def qj(t:TypeId)(q:Nat)(d:Co)(l:List (T S d))(o off n:Nat)(i j:Int)(ob:List (Nat×Nat×AO S))(ct:Nat)(k:ia S->Option γ):Option γ:=
 (gU tt t).bind fun ec=>(tt ec.1).bind fun ei=>(look q ob).bind fun a=>match a.2,decEq d .u8,decEq ec.2 .u8 with
  |.row e' d',isTrue h,isTrue _=>(match Nat.beq e' ec.1&&Nat.ble n 4096,decEq d' .u8 with
   |true,isTrue _=>(pxL o off n i j ob).bind fun l'=>(app (α:=UInt8) ei.bytes (ng h l) l').bind fun l2=>k {v:=.one (.rw (ct+1) .u8 l2),rd:=[o],rm:=[q],add:=[(ct+1,.row ec.1 .u8)]}
   |_,_=>none)
  |_,_,_=>none
def zf(t:TypeId)(v:CV S)(ob:List (Nat×Nat×AO S))(k:ia S->Option γ):Option γ:=
 (gU tt t).bind fun ec=>(tt ec.1).bind fun ei=>(BU tb ec.2 ei.zero).bind fun z=>match v with
  |.pt o c off n=>(look o ob).bind fun a=>match a.2 with
   |.arr e c' full l=>(match decEq c' ec.2,decEq c ec.2 with
    |isTrue h,isTrue _=>k {v:=.dD [],rm:=[o],add:=[(o,.arr e ec.2 full (EB (ng h l) off.toNat n.toNat z))]}
    |_,_=>none)
   |_=>none
  |_=>none
def DE:Co->Bool
 |.int _=>true
 |.u8=>true
 |.bo=>true
 |_=>false
def ql(t tx:TypeId)(v w:CV S)(ob:List (Nat×Nat×AO S))(ct:Nat)(k:ia S->Option γ):Option γ:=
 (gU tt t).bind fun ec=>(tt ec.1).bind fun ei=>(tt tx).bind fun xi=>match xi.d,v,w with
  |.int .i64,.fg,.int .i64 n=>(nW (0<n/\n*ei.bytes<=140737488355328)).bind fun _=>k {v:=.one (.rz (ct+1) ec.2 n),add:=[(ct+1,.row ec.1 ec.2)]}
  |.int .i64,.rw o d l,.int .i64 n=>(match DE ec.2,fu ei.d,decEq d ec.2 with
   |true,false,isTrue h=>(look o ob).bind fun a=>(match a.2 with
    |.row e' d'=>(match Nat.beq e' ec.1,decEq d' ec.2 with
     |true,isTrue _=>(BU tb ec.2 ei.zero).bind fun z=>(nW (0<=n/\n*ei.bytes<=140737488355328)).bind fun _=>(app ei.bytes (ng h l) (List.replicate n.toNat z)).bind fun l2=>k {v:=.one (.rw (ct+1) ec.2 l2),rm:=[o],add:=[(ct+1,.row ec.1 ec.2)]}
     |_,_=>none)
    |_=>none)
   |_,_,_=>none)
  |_,_,_=>none
def Qg(t:TypeId)(v:CV S)(ob:List (Nat×Nat×AO S))(k:ia S->Option γ):Option γ:=
 (tt t).bind fun ti=>match ti.d with
 |.slice _=>(match v with
  |.sl _ l=>k (val (.int .i64 (l.length:Int)))
  |.Xi _ l=>k (val (.int .i64 (l.length:Int)))
  |.rw _ _ l=>k (val (.int .i64 (l.length:Int)))
  |.fg=>k (val (.int .i64 0))
  |.aw o=>(look o ob).bind fun a=>match a.2 with
   |.arr _ _ _ l=>k {v:=.one (.int .i64 (l.length:Int)),rd:=[o]}
   |_=>none
  |_=>none)
 |.str=>(match v with| .str l=>k (val (.int .i64 (l.length:Int)))|_=>none)
 |.map _ _=>(match v with
  |.mp o=>(look o ob).bind fun a=>match a.2 with
   |.map _ _ _ l _=>k {v:=.one (.int .i64 (l.length:Int)),rd:=[o]}
   |_=>none
  |_=>none)
 |_=>none
def E7(s d:TypeId)(v:CV S)(ob:List (Nat×Nat×AO S))(k:ia S->Option γ):Option γ:=
 (tt s).bind fun a=>(tt d).bind fun b=>match v,b.d with
 |.int _ x,.int kd=>k (val (Xy kd x))
 |.u8 x,.int .u8=>k (val (.u8 x))
 |.u8 x,.int .i8=>k (val (.int .i8 (IntKind.i8.wrap (x.toNat:Int))))
 |.u8 x,.int kd=>k (val (.int kd (x.toNat:Int)))
 |.str l,.str=>match a.d with| .str=>k (val (.str l))|_=>none
 |v,.str=>match a.d,a.co with
  |.slice e,.sl .u8=>(tt e).bind fun ei=>match ei.d with| .int .u8=>(Xj (S:=S) .u8 v).bind fun l=>k (val (.str l))|_=>none
  |_,_=>none
 |.rw o c (y::l),.slice e=>match Nat.beq s d with
  |true=>(tt e).bind fun ei=>(look o ob).bind fun b=>match ei.d,b.2 with| .int .u8,.row _ _=>k {v:=.one (.sl c (y::l)),rm:=[o]}|_,_=>none
  |false=>none
 |_,_=>none
def nh:Co->AV S->Option (List (CV S))
 |.st _,.agg vs=>some vs
 |.st _,_=>none
 |_,.one v=>some [v]
 |_,_=>none
def jB(t:TypeId):Option (Co×Co×TI S):=(tt t).bind fun ti=>match ti.d,ti.co with
 |.map _ e,.mp kc vc=>(tt e).bind fun ei=>(match Dg tb kc&&(O2 vc&&!fu ei.d)with|true=>some (kc,vc,ei)|false=>none)
 |_,_=>none
def Hb(vc:Co)(y:Option (T S vc))(z:T S vc)(ok:Bool):AV S:=match ok with
 |true=>.dD [.one (toCV vc (y.getD z)),.one (VC y.isSome)]
 |false=>.one (toCV vc (y.getD z))
def FB(t:TypeId)(v:CV S)(key:AV S)(ok:Bool)(ob:List (Nat×Nat×AO S))(k:ia S->Option γ):Option γ:=
 (jB tb tt t).bind fun i=>(nh i.1 key).bind fun cs=>(BU tb i.1 cs).bind fun x=>(BU tb i.2.1 i.2.2.zero).bind fun z=>match v with
 |.mp o=>(look o ob).bind fun a=>match a.2 with
  |.map t' kc vc l none=>(match Nat.beq t' t,decEq kc i.1,decEq vc i.2.1 with
   |true,isTrue h,isTrue h'=>k {v:=Hb i.2.1 (gI (iX tb i.1) (iH h h' l) x) z ok,rd:=[o]}
   |_,_,_=>none)
  |.lD t' kc vc l none _=>(match Nat.beq t' t,decEq kc i.1,decEq vc i.2.1 with
   |true,isTrue h,isTrue h'=>k {v:=Hb i.2.1 (gI (iX tb i.1) (iH h h' l) x) z ok,rd:=[o]}
   |_,_,_=>none)
  |_=>none
 |_=>none
def mf(t:TypeId)(v:CV S)(key w:AV S)(ob:List (Nat×Nat×AO S))(k:ia S->Option γ):Option γ:=
 (jB tb tt t).bind fun i=>(nh i.1 key).bind fun cs=>(BU tb i.1 cs).bind fun x=>(nh i.2.1 w).bind fun ws=>(BU tb i.2.1 ws).bind fun y=>match v with
 |.mp o=>(look o ob).bind fun a=>match a.2 with
  |.map t' kc vc l none=>(match Nat.beq t' t,decEq kc i.1,decEq vc i.2.1 with
   |true,isTrue h,isTrue h'=>k {v:=AV.gH S,rm:=[o],add:=[(o,.map t i.1 i.2.1 (mG (iX tb i.1) (iH h h' l) x y) none)]}
   |_,_,_=>none)
  |.lD t' kc vc l none q=>(match Nat.beq t' t,decEq kc i.1,decEq vc i.2.1 with
   |true,isTrue h,isTrue h'=>(nW ((gI (iX tb i.1) (iH h h' l) x).isSome=true)).bind fun _=>k {v:=AV.gH S,rm:=[o],add:=[(o,.lD t i.1 i.2.1 (mG (iX tb i.1) (iH h h' l) x y) none q)]}
   |_,_,_=>none)
  |_=>none
 |_=>none
def PW(t:TypeId)(v:CV S)(key:AV S)(ob:List (Nat×Nat×AO S))(k:ia S->Option γ):Option γ:=
 (jB tb tt t).bind fun i=>(nh i.1 key).bind fun cs=>(BU tb i.1 cs).bind fun x=>match v with
 |.mp o=>(look o ob).bind fun a=>match a.2 with
  |.map t' kc vc l none=>(match Nat.beq t' t,decEq kc i.1,decEq vc i.2.1 with
   |true,isTrue h,isTrue h'=>k {v:=.dD [],rm:=[o],add:=[(o,.map t i.1 i.2.1 (Zk (iX tb i.1) (iH h h' l) x) none)]}
   |_,_,_=>none)
  |_=>none
 |_=>none
def AK{a c:Co}(h:a=c)(x:T S a):T S c:=h▸x
def FH(t:TypeId)(v:CV S)(key:AV S)(ob:List (Nat×Nat×AO S))(ct:Nat)(k:ia S->Option γ):Option γ:=
 (jB tb tt t).bind fun i=>(nh i.1 key).bind fun cs=>(BU tb i.1 cs).bind fun x=>(BU tb i.2.1 i.2.2.zero).bind fun z=>match v with
 |.mp o=>(look o ob).bind fun a=>match a.2 with
  |.map t' kc vc l none=>(match Nat.beq t' t,decEq kc i.1,decEq vc i.2.1 with
   |true,isTrue h,isTrue h'=>k {v:=.dD [.one (toCV i.2.1 ((gI (iX tb i.1) (iH h h' l) x).getD z)),.one (.Xo o (ct+1))],rm:=[o],add:=[(o,.map t i.1 i.2.1 (LX (iX tb i.1) (iH h h' l) x z) (some (x,ct+1)))]}
   |_,_,_=>none)
  |.lD t' kc vc l none q=>(match Nat.beq t' t,decEq kc i.1,decEq vc i.2.1 with
   |true,isTrue h,isTrue h'=>(nW ((gI (iX tb i.1) (iH h h' l) x).isSome=true)).bind fun _=>k {v:=.dD [.one (toCV i.2.1 ((gI (iX tb i.1) (iH h h' l) x).getD z)),.one (.Xo o (ct+1))],rm:=[o],add:=[(o,.lD t i.1 i.2.1 (iH h h' l) (some (x,ct+1)) q)]}
   |_,_,_=>none)
  |_=>none
 |_=>none
def P2(t:TypeId)(v s:CV S)(w:AV S)(ob:List (Nat×Nat×AO S))(k:ia S->Option γ):Option γ:=
 (jB tb tt t).bind fun i=>(nh i.2.1 w).bind fun ws=>(BU tb i.2.1 ws).bind fun y=>match v,s with
 |.mp o,.Xo o' q=>(match Nat.beq o o' with
  |true=>(look o ob).bind fun a=>match a.2 with
   |.map t' kc vc l (some (x,q'))=>(match Nat.beq t' t&&Nat.beq q q',decEq kc i.1,decEq vc i.2.1 with
    |true,isTrue h,isTrue h'=>k {v:=AV.gH S,rm:=[o],add:=[(o,.map t i.1 i.2.1 (mG (iX tb i.1) (iH h h' l) (AK h x) y) none)]}
    |_,_,_=>none)
   |.lD t' kc vc l (some (x,q')) q0=>(match Nat.beq t' t&&Nat.beq q q',decEq kc i.1,decEq vc i.2.1 with
    |true,isTrue h,isTrue h'=>k {v:=AV.gH S,rm:=[o],add:=[(o,.lD t i.1 i.2.1 (mG (iX tb i.1) (iH h h' l) (AK h x) y) none q0)]}
    |_,_,_=>none)
   |_=>none
  |false=>none)
 |_,_=>none
def zT(t:TypeId)(v:CV S)(ob:List (Nat×Nat×AO S))(ct:Nat)(k:ia S->Option γ):Option γ:=
 (jB tb tt t).bind fun i=>match v with
 |.mp o=>(look o ob).bind fun a=>match a.2 with
  |.map t' kc vc l none=>(match Nat.beq t' t,decEq kc i.1,decEq vc i.2.1 with
   |true,isTrue h,isTrue h'=>k {v:=.one (.Wq (ct+1)),rm:=[o],add:=[(o,.lD t i.1 i.2.1 (iH h h' l) none (ct+1)),(ct+1,.sD i.1 o none)]}
   |_,_,_=>none)
  |_=>none
 |_=>none
def Od:(c:Co)->T S c->AV S
 |.st i,x=>.agg (Q7 tb (.st i) x)
 |c,x=>.one (toCV c x)
def zj(v:CV S)(ob:List (Nat×Nat×AO S))(k:ia S->Option γ):Option γ:=match v with
 |.Wq q=>(look q ob).bind fun b=>match b.2 with
  |.sD kc' o (some (some x))=>(look o ob).bind fun a=>match a.2 with
   |.lD t kc vc l none q'=>(jB tb tt t).bind fun i=>(BU tb i.2.1 i.2.2.zero).bind fun z=>(match Nat.beq q' q,decEq kc' i.1,decEq kc i.1,decEq vc i.2.1 with
    |true,isTrue h0,isTrue h,isTrue h'=>k {v:=.dD [Od tb i.1 (AK h0 x),.one (toCV i.2.1 ((gI (iX tb i.1) (iH h h' l) (AK h0 x)).getD z))],rd:=[q,o]}
    |_,_,_,_=>none)
   |_=>none
  |_=>none
 |_=>none
def Zo:List (CV S)->Bool
 |[.fg]=>true
 |_=>false
def rC(t:TypeId):Option (Co×Co×TypeId):=(tt t).bind fun ti=>match ti.d,ti.co with
 |.map _ e,.mp kc (.sl c)=>(tt e).bind fun si=>(gU tt e).bind fun ec=>(match Dg tb kc&&Zo si.zero,decEq ec.2 c with|true,isTrue _=>some (kc,c,ec.1)|_,_=>none)
 |_,_=>none
def zp(t:TypeId)(v:CV S)(key:AV S)(ok:Bool)(ob:List (Nat×Nat×AO S))(k:ia S->Option γ):Option γ:=
 (rC tb tt t).bind fun i=>(nh i.1 key).bind fun cs=>(BU tb i.1 cs).bind fun x=>match v,ok with
 |.mp o,false=>(look o ob).bind fun a=>match a.2 with
  |.qE t' _ kc c l none=>(match Nat.beq t' t,decEq kc i.1,decEq c i.2.1 with
   |true,isTrue h,isTrue h'=>k {v:=.one (.sl i.2.1 ((gI (iX tb i.1) (AJ h h' l) x).getD [])),rd:=[o]}
   |_,_,_=>none)
  |_=>none
 |_,_=>none
def zt(t:TypeId)(v:CV S)(key:AV S)(ok:Bool)(ob:List (Nat×Nat×AO S))(ct:Nat)(k:ia S->Option γ):Option γ:=
 (rC tb tt t).bind fun i=>(nh i.1 key).bind fun cs=>(BU tb i.1 cs).bind fun x=>match v,ok with
 |.mp o,false=>(look o ob).bind fun a=>match a.2 with
  |.qE t' et kc c l none=>(match Nat.beq t' t&&Nat.beq et i.2.2,decEq kc i.1,decEq c i.2.1 with
   |true,isTrue h,isTrue h'=>k {v:=.one (.rw (ct+1) i.2.1 ((gI (iX tb i.1) (AJ h h' l) x).getD [])),rm:=[o],add:=[(o,.qE t i.2.2 i.1 i.2.1 (AJ h h' l) (some x)),(ct+1,.row i.2.2 i.2.1)]}
   |_,_,_=>none)
  |_=>none
 |_,_=>none
def N4{α:Type}(eq:α->α->Bool)(x:α)(h:Option α)(k:Option γ):Option γ:=match h with
 |none=>k
 |some y=>(nW (eq x y=true)).bind fun _=>k
def XG{a c:Co}(h:a=c)(x:Option (T S a)):Option (T S c):=h▸x
def Fs(t:TypeId)(v:CV S)(key:AV S)(w:CV S)(ob:List (Nat×Nat×AO S))(k:ia S->Option γ):Option γ:=
 (rC tb tt t).bind fun i=>(nh i.1 key).bind fun cs=>(BU tb i.1 cs).bind fun x=>match v,w with
 |.mp o,.rw p d l2=>(look o ob).bind fun a=>(look p ob).bind fun b=>match a.2,b.2 with
  |.qE t' et kc c l hole,.row et' c'=>(match Nat.beq t' t&&(Nat.beq et i.2.2&&Nat.beq et' i.2.2),decEq kc i.1,decEq c i.2.1,decEq c' i.2.1,decEq d i.2.1 with
   |true,isTrue h,isTrue h',isTrue _,isTrue hd=>N4 (iX tb i.1) x (XG h hole) (k {v:=AV.gH S,rm:=[o,p],add:=[(o,.qE t i.2.2 i.1 i.2.1 (mG (iX tb i.1) (AJ h h' l) x (ng hd l2)) none)]})
   |_,_,_,_,_=>none)
  |_,_=>none
 |_,_=>none
def Td:List (CV S)->Bool
 |[.fB]=>true
 |_=>false
def zA(t:TypeId):Option Co:=(tt t).bind fun ti=>match ti.d,ti.co with
 |.map _ e,.mp kc (.a8 _)=>(tt e).bind fun fi=>(match Dg tb kc&&(Td fi.zero&&!fu fi.d)with|true=>some kc|false=>none)
 |_,_=>none
def I0{a c:Co}(h:a=c)(l:List (T S a×CV S)):List (T S c×CV S):=h▸l
def Y6:CV S->Bool
 |.fn _ _ _=>true
 |_=>false
def Di(t:TypeId)(v:CV S)(key:AV S)(w:AV S)(ob:List (Nat×Nat×AO S))(k:ia S->Option γ):Option γ:=
 (zA tb tt t).bind fun i=>(nh i key).bind fun cs=>(BU tb i cs).bind fun x=>match v,w with
 |.mp o,.one f=>(look o ob).bind fun a=>match a.2 with
  |.EP t' kc l=>(match Nat.beq t' t&&Y6 f,decEq kc i with
   |true,isTrue h=>(match(I0 h l).any fun p=>iX tb i x p.1 with
    |true=>none
    |false=>k {v:=AV.gH S,rm:=[o],add:=[(o,.EP t i (I0 h l++[(x,f)]))]})
   |_,_=>none)
  |_=>none
 |_,_=>none
def Dh(o:Nat)(c:Co)(x:T S c)(k:ia S->Option γ):List (T S c×CV S)->Option γ
 |[]=>k {v:=.one .fB,rd:=[o]}
 |p::l=>@ite _ (iX tb c x p.1=true) inferInstance (k {v:=.one p.2,rd:=[o]}) (Dh o c x k l)
def zy(t:TypeId)(v:CV S)(key:AV S)(ok:Bool)(ob:List (Nat×Nat×AO S))(k:ia S->Option γ):Option γ:=
 (zA tb tt t).bind fun i=>(nh i key).bind fun cs=>(BU tb i cs).bind fun x=>match v,ok with
 |.mp o,false=>(look o ob).bind fun a=>match a.2 with
  |.EP t' kc l=>(match Nat.beq t' t,decEq kc i with
   |true,isTrue h=>Dh tb o i x k (I0 h l)
   |_,_=>none)
  |_=>none
 |_,_=>none
def tE:List (AV S)->Option (List (CV S))
 |[]=>some []
 |.one v::l=>(tE l).map (v:: ·)
 |.agg vs::l=>(tE l).map (.ag vs:: ·)
 |_::_=>none
def jI(place:Nat->Option (Nat×Nat)):List (CV S)->List (Nat×AV S)->Option (List (CV S))
 |cs,[]=>some cs
 |cs,(i,a)::l=>(place i).bind fun p=>(o9 a).bind fun xs=>(TE p.1 p.2 xs cs).bind fun cs'=>jI place cs' l
def Qh(c:Co):List (Nat×AV S)->Option (List (T S c))
 |[]=>some []
 |(_,a)::l=>(o9 a).bind fun xs=>(BU tb c xs).bind fun x=>(Qh c l).map (x:: ·)
def C8:Nat->List (Nat×AV S)->Bool
 |_,[]=>true
 |i,(j,_)::l=>Nat.beq i j&&C8 (i+1) l
def vX(f:TypeId×Nat×Nat)(v:CV S)(k:ia S->Option γ):Option γ:=match Nat.ble 1 f.2.2,v with
 |true,.ptr o off=>k (val (.ptr o (off+f.2.1)))
 |true,.el c x off=>k (val (.el c x (off+f.2.1)))
 |true,.KG o v c x j off=>k (val (.KG o v c x j (off+f.2.1)))
 |_,_=>none
def Z0(op:UnOp)(v:CV S)(k:ia S->Option γ):Option γ:=match op,v with
 |.not,.tt b=>k (val (.tt !b))
 |.not,.bo b _ _ _=>k (val (VF b))
 |.not,.na e n=>k (val (.na e (!n)))
 |.neg,.int kk x=>k (val (.int kk (kk.wrap (-x))))
 |.xor,.int kk x=>k (val (.int kk (PL kk (if kk.signed then -1 else kk.max) x)))
 |_,_=>none
def HC:Operand->Operand->Bool
 |.tmp a,.tmp b=>Nat.beq a b
 |.const (.int k n),.const (.int k' n')=>decide (k=k')&&decide (n=n')
 |_,_=>false
def core(o:Oper)(xs:List (AV S))(ob:List (Nat×Nat×AO S))(ct:Nat)(k:ia S->Option γ):Option γ:=
 match o.op with
 |.move _=>match xs with| [a]=>k {v:=a}|_=>none
 |.assign _=>match xs with| [a]=>k {v:=a}|_=>none
 |.pick _ _ _=>match xs with| [.one c,a,b]=>Y4 c (fun z=>match z with|true=>k {v:=a}|false=>k {v:=b})|_=>none
 |.extract _ i=>match xs with| [.dD vs]=>(vs[i]?).bind fun a=>k {v:=a}|_=>none
 |.nilCheck _=>match xs with| [.one v]=>(match v with| .ptr _ _=>k (val v)| .fn (.func _) _ _=>k (val v)| .el _ _ _=>k (val v)| .KG _ _ _ _ _ _=>k (val v)|_=>none)|_=>none
 |.binOp op t _ y _=>match xs with| [a,b]=>PJ tt op t y a b fun v=>k (val v)|_=>none
 |.unOp op _ _=>match xs with
  |[.one v]=>Z0 op v k
  |_=>none
 |.convert s d _=>match xs with| [.one v]=>E7 tt s d v ob k|_=>none
 |.fieldAddr t _ i=>match xs with
  |[.one v]=>(tt t).bind fun ti=>match ti.d with
   |.struct fs=>(fs[i]?).bind fun(f:TypeId×Nat×Nat)=>vX f v k
   |_=>none
  |_=>none
 |.field t _ i=>match xs with
  |[.agg vs]=>(tt t).bind fun ti=>match ti.d with
   |.struct fs=>(fs[i]?).bind fun(f:TypeId×Nat×Nat)=>(tt f.1).bind fun fi=>(match fu fi.d with
    |true=>((cutAt f.2.1 vs).bind (qx fi.size)).bind fun l=>k {v:=.agg l}
    |false=>(ta f.2.1 vs).bind fun v=>k (val v))
   |_=>none
  |_=>none
 |.build t parts=>(tt t).bind fun ti=>(match ti.d with
  |.struct fs=>jI (fun i=>(fs[i]?).map fun(f:TypeId×Nat×Nat)=>f.2) ti.zero ((parts.toList.map Prod.fst).zip xs)
  |.array _ e=>(tt e).bind fun ei=>jI (fun i=>some (i*ei.size,ei.size)) ti.zero ((parts.toList.map Prod.fst).zip xs)
  |_=>none).bind fun cs=>k {v:=.agg cs}
 |.makeFunc f first _=>(tE xs).bind fun vs=>k (val (.fn f (vs.take first.size) (vs.drop first.size)))
 |.alloc t=>(tt t).bind fun ti=>k {v:=.one (.ptr (ct+1) 0),add:=[(ct+1,.box t ti.zero)]}
 |.box t _=>match xs with| [a]=>(o9 a).bind fun cs=>k {v:=.one (.ptr (ct+1) 0),add:=[(ct+1,.box t cs)]}|_=>none
 |.load t _=>match xs with| [.one v]=>Fz tb tt t v ob k|_=>none
 |.store t _ _=>match xs with| [.one p,a]=>Ai tb tt t p a ob k|_=>none
 |.indexAddr t _ y=>match xs with| [.one v,i]=>(idxOf i).bind fun i=>zu tt t y v i ob k|_=>none
 |.index t _ _=>(tt t).bind fun ti=>match ti.d,xs with
  |.str,[.one (.str l),i]=>(idxOf i).bind fun i=>(idx l i).bind fun c=>k (val (.u8 c))
  |.array n e,[.agg [.ai n' kk f],i]=>(tt e).bind fun ei=>(idxOf i).bind fun i=>(match Nat.beq n' n,Nat.beq ei.size 1,fu ei.d with
   |true,true,false=>(nW (0<=i/\i<n)).bind fun _=>k (val (.int kk (ry f i)))
   |_,_,_=>none)
  |_,_=>none
 |.slice t _ lo hi mx=>match xs with
  |.one v::r=>(oU lo r).bind fun a=>(oU hi a.2).bind fun b=>(oU mx b.2).bind fun c=>match v with| .ptr o off=>(match has t fa.parts with|true=>uW tt t o off a.1 b.1 c.1 ob k|false=>uX tt t o off a.1 b.1 c.1 k)| .str l=>F1 tt t l a.1 b.1 c.1 k|v=>(match has t fa.parts&&a.1.isSome with|true=>FP tt t v a.1 b.1 c.1 ob ct k|false=>wx tt t v a.1 b.1 c.1 ob ct k)
  |_=>none
 |.buildSlice t len parts=>(gU tt t).bind fun ec=>(tt ec.1).bind fun ei=>
  let ps:=(parts.toList.map Prod.fst).zip xs
  match Nat.beq len xs.length&&C8 0 ps&&Nat.ble (len*ei.size) 16777216 with
  |true=>(Qh tb ec.2 ps).bind fun l=>match has t fa.lits||(Nat.beq len 0&&has t fa.IV)with
   |true=>k {v:=.one (.aw (ct+1)),add:=[(ct+1,.arr ec.1 ec.2 true l)]}
   |false=>k {v:=.one (.rw (ct+1) ec.2 l),add:=[(ct+1,.row ec.1 ec.2)]}
  |false=>none
 |.makeMap t r=>match r,xs with
  |none,[]=>(match jB tb tt t with
   |some i=>k {v:=.one (.mp (ct+1)),add:=[(ct+1,.map t i.1 i.2.1 [] none)]}
   |none=>(match rC tb tt t with
    |some i=>k {v:=.one (.mp (ct+1)),add:=[(ct+1,.qE t i.2.2 i.1 i.2.1 [] none)]}
    |none=>(zA tb tt t).bind fun i=>k {v:=.one (.mp (ct+1)),add:=[(ct+1,.EP t i [])]}))
  |_,_=>none
 |.lookup t _ _ ok=>match xs with| [.one v,key]=>(match(jB tb tt t).isSome,(rC tb tt t).isSome with|true,_=>FB tb tt t v key ok ob k|false,true=>(match has t fa.takes with|true=>zt tb tt t v key ok ob ct k|false=>zp tb tt t v key ok ob k)|false,false=>zy tb tt t v key ok ob k)|_=>none
 |.mapEntry t _ _=>match xs with| [.one v,key]=>FH tb tt t v key ob ct k|_=>none
 |.entryStore t _ _ _=>match xs with| [.one v,.one s,w]=>P2 tb tt t v s w ob k|_=>none
 |.mapUpdate t _ _ _=>match xs with| [.one v,key,w]=>(match(jB tb tt t).isSome,(rC tb tt t).isSome with|true,_=>mf tb tt t v key w ob k|false,true=>(match w with| .one w=>Fs tb tt t v key w ob k|_=>none)|false,false=>Di tb tt t v key w ob k)|_=>none
 |.range t _=>match xs with| [.one v]=>zT tb tt t v ob ct k|_=>none
 |.entry _=>match xs with| [.one v]=>zj tb tt v ob k|_=>none
 |.makeSlice t x y=>match xs,HC x y with
  |[a,_],true=>(idxOf a).bind fun n=>(gU tt t).bind fun ec=>(tt ec.1).bind fun ei=>(match DE ec.2,fu ei.d with
   |true,false=>(BU tb ec.2 ei.zero).bind fun z=>(nW (0<=n/\n*ei.bytes<=140737488355328)).bind fun _=>
    k {v:=.one (.aw (ct+1)),add:=[(ct+1,.arr ec.1 ec.2 true (List.replicate n.toNat z))]}
   |_,_=>none)
  |_,_=>none
 |.call c=>match c.callee with
  |.builtin b=>match b,xs with
   |.len,[.one v]=>(match c.argTypes.toList with| [t]=>Qg tt t v ob k|_=>none)
   |.append,[.one v,.one w]=>(match c.argTypes.toList with| [t,t']=>(match Nat.beq t t' with|true=>(match v,w with| .rw q d l,.px o off n i j=>qj tt t q d l o off n i j ob ct k|v,w=>um tt fa t v w ob ct k)|false=>ql tb tt t t' v w ob ct k)|_=>none)
   |.copy,[.one v,.one w]=>(match c.argTypes.toList with| [t,_]=>Fa tt t v w ob k|_=>none)
   |.clear,[.one v]=>(match c.argTypes.toList with| [t]=>zf tb tt t v ob k|_=>none)
   |.delete,[.one v,key]=>(match c.argTypes.toList with| [t,_]=>PW tb tt t v key ob k|_=>none)
   |.cap,[.one .fg]=>(match c.argTypes.toList with| [t]=>(gU tt t).bind fun _=>k (val (.int .i64 0))|_=>none)
   |.min,[.one v,.one w]=>(num v).bind fun x=>(num w).bind fun y=>match decEq x.1 y.1 with|isTrue _=>k (val (qL x.1 (ib x.2 y.2)))|isFalse _=>none
   |.max,[.one v,.one w]=>(num v).bind fun x=>(num w).bind fun y=>match decEq x.1 y.1 with|isTrue _=>k (val (qL x.1 (imax x.2 y.2)))|isFalse _=>none
   |_,_=>none
  |.value _=>match xs with
   |.one (.fn (.func f) first caps)::args=>(match Nat.ble f 999999 with|true=>o8 tb f (first.map yL++args++caps.map yL) ob ct k Φ|false=>none)
   |.one (.yl q)::args=>(look q ob).bind fun a=>match a.2 with| .loop r .ready _=>o8 tb (Z4 r) (.one (.yl q)::args) ob ct k Φ|_=>none
   |_=>none
  |.invoke _ _=>none
 |.insert t _ _ _=>match xs with| [.one v,key,w]=>Di tb tt t v key w ob k|_=>none
 |_=>none
end
def ui:CV S->List Value
 |.int k x=>[.int k x]
 |.u8 x=>[.int .u8 (x.toNat:Int)]
 |.tt b=>[.bool b]
 |.str l=>[.string (Proofs.YtjfkdglgecgjfaaGreat.str l)]
 |.fg=>[.slice none 0 0]
 |.kG=>[.pointer none]
 |.fB=>[.nilFunc]
 |.Bv=>[.map none]
 |.xV=>[.nilIface]
 |.a8 n f=>(List.range n).map (fun i=>.int .u8 ((f i).toNat:Int))
 |.ai n k f=>(List.range n).map (fun i=>.int k (f i))
 |_=>[]
def jc(vs:List (CV S)):List Value:=vs.flatMap ui
def Sh:Value->Value->Bool
 |.int k n,.int k' n'=>decide (k=k')&&decide (n=n')
 |.bool b,.bool b'=>b == b'
 |.slice none 0 0,.slice none 0 0=>true
 |.pointer none,.pointer none=>true
 |.nilFunc,.nilFunc=>true
 |.map none,.map none=>true
 |.nilIface,.nilIface=>true
 |.string s,.string s'=>decide (s.data.toList=s'.data.toList)
 |_,_=>false
def P1:List Value->List Value->Bool
 |[],[]=>true
 |v::vs,w::ws=>match Sh v w with|true=>P1 vs ws|false=>false
 |_,_=>false
def BJ:Value->Option (CV S)
 |.int .u8 n=>match decEq (n % 256) n with|isTrue _=>some (.u8 (G.u8 n))|isFalse _=>none
 |.int k n=>some (.int k n)
 |.bool b=>some (.tt b)
 |.string s=>some (.str s.data.toList)
 |.slice none 0 0=>some .fg
 |.pointer none=>some .kG
 |.nilFunc=>some .fB
 |.map none=>some .Bv
 |.nilIface=>some .xV
 |_=>none
def qt:List Value->Option (List (CV S))
 |[]=>some []
 |v::vs=>(BJ v).bind fun x=>(qt vs).map (x:: ·)
def Gu(tt:TypeId->Option (TI S))(t:TypeId):Value->Option (AV S)
 |.agg cs=>match tt t with
  |some i=>(match P1 (jc i.zero) cs.toList with|true=>some (.agg i.zero)|false=>(qt cs.toList).map .agg)
  |none=>(qt cs.toList).map .agg
 |.tuple vs=>match vs.toList with| []=>some (AV.gH S)|_=>none
 |v=>(BJ v).map .one
def J0(o:Oper):List TypeId:=match o.op with
 |.move _=>[o.type]
 |.assign _=>[o.type]
 |.store t _ _=>[0,t]
 |.binOp _ t _ _ _=>[t,t]
 |.call c=>match c.callee with| .builtin _=>c.argTypes.toList|_=>0::c.argTypes.toList
 |_=>[]
def AS.get(σ:AS S)(t:Tmp):Option (Nat×AV S):=look (σ.fb+t) σ.tm
def pz(tt:TypeId->Option (TI S))(σ:AS S)(t:TypeId):Operand->Option (AV S)
 |.tmp u=>(σ.get u).map (·.2)
 |.const v=>Gu tt t v
 |.func f=>some (.one (.fn (.func f) [] []))
 |.global _=>none
def qM(tt:TypeId->Option (TI S))(σ:AS S):List TypeId->List Operand->Option (List (AV S))
 |_,[]=>some []
 |[],x::xs=>(pz tt σ 0 x).bind fun a=>(qM tt σ [] xs).map (a:: ·)
 |t::ts,x::xs=>(pz tt σ t x).bind fun a=>(qM tt σ ts xs).map (a:: ·)
def Kg(bT:Nat)(b:Bool):List (Nat×Nat×AV S)->List (Nat×Nat×AV S)
 |[]=>[]
 |(t,v,a)::l=>match Nat.beq v bT with|true=>(t,v,.one (.tt b))::Kg bT b l|false=>(t,v,a)::Kg bT b l
def AS.jm(σ:AS S)(bT:Nat)(b:Bool):AS S:={σ with tm:=Kg bT b σ.tm}
def AS.put(σ:AS S)(d:Option Tmp)(bT:Option Nat)(v:AV S):AS S:=match d with
 |some d=>{σ with tm:=(σ.fb+d,bT.getD σ.ct,v)::qz (σ.fb+d) σ.tm}
 |none=>σ
def ve(v:Nat):List (Nat×AO S)->List (Nat×Nat×AO S)
 |[]=>[]
 |(q,a)::l=>(q,v,a)::ve (v+1) l
def AS.la(σ:AS S)(d:Option Tmp)(bT:Option Nat)(r:ia S):AS S:=
 {σ.put d bT r.v with ob:=ve (σ.ct+32) r.add++dH r.rm σ.ob,ct:=σ.ct+64}
def mY(σ:AS S):Op->Option Nat
 |.move (.tmp t)=>(σ.get t).map (·.1)
 |.assign (.tmp t)=>(σ.get t).map (·.1)
 |_=>none
abbrev Log:=List (Nat×List Nat×List Nat)
def xJ(ops:Array Oper):Log->Bool
 |[]=>true
 |(j,rd,rm)::l=>(l.all fun p=>D.pO ops p.1 j||!(rm.any (fun x=>has x p.2.1||has x p.2.2)||rd.any fun x=>has x p.2.2))&&xJ ops l
section
variable {γ:Type}(tt:TypeId->Option (TI S))(Φ:List (dS S))(fa:FA S)
def tp(ops:Array Oper)(g:Option (Nat×Bool))(σ:AS S)(go:Bool->AS S->Option γ):Option γ:=match g with
 |none=>go true σ
 |some (j,b)=>match(sd ops j).bind σ.get with
  |some (bT,.one v)=>(match v with
   |.tt c=>go (c == b) σ
   |.bo _ p d _=>@ite _ p d (go b (σ.jm bT true)) (go (!b) (σ.jm bT false))
   |_=>none)
  |some (_,.dD [])=>go false σ
  |_=>none
def pf(sq:Bool)(ops:Array Oper):List Oper->Nat->AS S->Log->(AS S->Log->Option γ)->Option γ
 |[],_,σ,lg,k=>k σ lg
 |o::rest,i,σ,lg,k=>tp ops o.guard σ fun run σ=>match run with
  |false=>pf sq ops rest (i+1) {σ.put o.dst none (AV.gH S)with ct:=σ.ct+64} lg k
  |true=>match qM tt σ (J0 o) o.op.operands.toList with
   |some xs=>match WG fa sq o xs with
    |none=>core tb tt Φ fa o xs σ.ob σ.ct fun r=>match gD (r.rd++r.rm)with
     |true=>pf sq ops rest (i+1) (σ.la o.dst (mY σ o.op) r) ((i,r.rd,r.rm++r.add.map (·.1))::lg) k
     |false=>none
    |some fx=>mb tb fx.1 fx.2 σ.ob σ.ct (fun r=>pf sq ops rest (i+1) (σ.la o.dst none r) lg k) fa.nd
   |none=>none
end
inductive An where
 |o
 |u (a:An)
 |b (l r:An)
 |j (J:JA) (a:An)
 |lp (J:JA) (a:An)
 |mr (J:JA) (q:Nat) (a:An)
 |z (l:List (Nat×Nat×Ye)) (a:An)
 deriving Inhabited
def An.l1:An->An
 |.u a=>a
 |.b l _=>l
 |_=>.o
def An.r1:An->An
 |.b _ r=>r
 |_=>.o
variable (S) in
def Kp(β:Type):=∀γ:Type,(β->γ)->QY->AS S->Option γ
variable (S) in
def W:=An->AS S->(β:Type)->Kp S β->(γ:Type)->(β->γ)->Option γ
def fC:Code->List Nat
 |.seq x y=>fC x++fC y
 |.cond _ x y=>fC x++fC y
 |.block _ x=>fC x
 |.scope x=>fC x
 |.loop x=>fC x
 |.region _ ops _=>ops.toList.filterMap (·.dst)
 |.rangeFunc _ ps x y=>ps.toList++(fC x++fC y)
 |_=>[]
def JA.at_(J:JA)(c:Code)(fb:Nat):JA:={J with kill:=(fC c).map (fb+ ·)++J.kill}
def kN(J:JA)(σ:AS S):Kp S (HT S J.ls):=fun _ e ex σ'=>match ex with
 |.normal=>(pack tb J σ σ').bind fun z=>some (e z)
 |_=>none
def kJ(J:JA)(σ:AS S){β γ:Type}(κ:Kp S β)(emb:β->γ):Kp S (HT S J.ls⊕γ):=fun δ e ex σ'=>match ex with
 |.normal=>(pack tb J σ σ').bind fun z=>some (e (.inl z))
 |ex=>κ δ (fun b=>e (.inr (emb b))) ex σ'
def kS{β:Type}(f:W S)(an:An)(κ:Kp S β):Kp S β:=fun δ e ex σ'=>match ex with
 |.normal=>f an σ' β κ δ e
 |ex=>κ δ e ex σ'
def kB{β:Type}(id:Nat)(κ:Kp S β):Kp S β:=fun δ e ex σ'=>match ex with
 |.exit n=>match Nat.beq n id with|true=>κ δ e .normal σ'|false=>κ δ e (.exit n) σ'
 |ex=>κ δ e ex σ'
def Z2(c:Code)(f:W S):W S:=fun an σ β κ γ emb=>match an with
 |.j J a=>match J.early with
  |false=>(f a σ (HT S J.ls) (kN tb (J.at_ c σ.fb) σ) (HT S J.ls) id).bind fun z=>
   match unpack tb (J.at_ c σ.fb) σ z with|some σ1=>κ γ emb .normal σ1|none=>none
  |true=>(f a σ (HT S J.ls⊕γ) (kJ tb (J.at_ c σ.fb) σ κ emb) (HT S J.ls⊕γ) id).bind fun z=>
   tw z fun u=>match unpack tb (J.at_ c σ.fb) σ u with|some σ1=>κ γ emb .normal σ1|none=>none
 |a=>f a σ β κ γ emb
def wj(c:Code)(f:W S):W S:=fun an σ β κ γ emb=>match an with
 |.z l a=>match EW l σ with|some σ1=>Z2 tb c f a σ1 β κ γ emb|none=>none
 |an=>Z2 tb c f an σ β κ γ emb
def tM:Code->Nat
 |.region id _ _=>id
 |.seq x _=>tM x
 |_=>0
def my(σ:AS S)(lp:AO S):AS S:={σ with ob:=(σ.ct+1,σ.ct+32,lp)::σ.ob,ct:=σ.ct+64}
def kb(q:Nat)(σ2:AS S){β γ:Type}(κ:Kp S β)(emb:β->γ):Option γ:=
 match look q σ2.ob with
 |some (_,.loop _ st _)=>(match st with
  |.ready=>κ γ emb .normal {σ2 with ob:=dH [q] σ2.ob}
  |.done .ret=>κ γ emb .ret {σ2 with ob:=dH [q] σ2.ob}
  |.done (.exit n)=>κ γ emb (.exit n) {σ2 with ob:=dH [q] σ2.ob}
  |_=>none)
 |_=>none
def hd2(ops:Array Oper):Option (Nat×Nat×Nat):=match ops.toList with
 |[a,b]=>match a.op,a.dst,a.guard,b.op,b.dst,b.guard with
  |.next (.tmp it) false,some nx,none,.extract (.tmp nx') 0,some c,none=>(match Nat.beq nx nx' with|true=>some (it,nx,c)|false=>none)
  |_,_,_,_,_,_=>none
 |_=>none
def NL(t:Nat)(l:List (Nat×Nat×AV S)):List (Nat×Nat×AV S):=l.filter fun p=>!Nat.beq p.1 t
def AS.df(σ:AS S)(t:Nat):AS S:={σ with tm:=NL (σ.fb+t) σ.tm}
def L5(q it:Nat)(σ:AS S):Bool:=match σ.get it,look q σ.ob with
 |some (_,.one (.Wq q')),some (_,.sD kc o _)=>(match look o σ.ob with
  |some (_,.lD _ kc' _ _ none q2)=>Nat.beq q' q&&(Nat.beq q2 q&&match decEq kc' kc with|isTrue _=>true|isFalse _=>false)
  |_=>false)
 |_,_=>false
def Qo(q it nx c:Nat){kc:Co}(x:T S kc)(σ:AS S):Option (AS S):=match look q σ.ob with
 |some (_,.sD kc' o _)=>(match decEq kc kc',L5 q it σ with
  |isTrue h,true=>some (IJ {(σ.df nx).df c with ob:=dH [q] σ.ob} q (.sD kc' o (some (some (AK h x)))))
  |_,_=>none)
 |_=>none
def FJ(q it nx c:Nat)(σ:AS S):Option (AS S):=match look q σ.ob with
 |some (_,.sD _ o _)=>(match look o σ.ob,L5 q it σ with
  |some (_,.lD t kc vc l none _),true=>some (IJ {((σ.df nx).df c).df it with ob:=dH [o] (dH [q] σ.ob)} o (.map t kc vc l none))
  |_,_=>none)
 |_=>none
def kM(q ver:Nat)(J:JA)(σ:AS S){β γ:Type}(κ:Kp S β)(emb:β->γ):Kp S (HT S J.ls⊕γ):=fun δ e ex σ'=>match ex with
 |.normal=>(match look q σ'.ob with
  |some (v,_)=>(match Nat.beq v ver with|true=>(pack tb J σ σ').bind fun z=>some (e (.inl z))|false=>none)
  |none=>none)
 |ex=>κ δ (fun b=>e (.inr (emb b))) ex σ'
def SS{kc kc' vc:Co}(h:kc'=kc)(l:List (T S kc'×T S vc)):List (T S kc):=h▸l.map (·.1)
noncomputable def WD(J:JA)(q:Nat)(σ:AS S)(it nx c out:Nat)(f:AS S->(β:Type)->Kp S β->(γ:Type)->(β->γ)->Option γ){β γ:Type}(κ:Kp S β)(emb:β->γ):Option γ:=match look q σ.ob with
 |some (_,.sD kc o none)=>(match look o σ.ob with
  |some (_,.lD _ kc1 _ l none q1)=>(match decEq kc1 kc,Nat.beq q1 q with
   |isTrue h,true=>(pack tb J σ σ).bind fun z0=>vu (fun p:List (T S kc)=>p.Perm (SS h l)) fun p=>qK
    (fun x z=>match unpack tb J σ z with
     |some σ1=>(match Qo q it nx c x σ1 with
      |some σ2=>f σ2 (HT S J.ls⊕γ) (kM tb q (σ1.ct+32) J σ κ emb) (HT S J.ls⊕γ) id
      |none=>none)
     |none=>none)
    (fun z=>match unpack tb J σ z with
     |some σ1=>(match FJ q it nx c σ1 with
      |some σ2=>κ γ emb (.exit out) σ2
      |none=>none)
     |none=>none) p z0
   |_,_=>none)
  |_=>none)
 |_=>none
section
variable (tt:TypeId->Option (TI S))(Φ:List (dS S))(fa:FA S)
noncomputable def yG:Code->W S
 |.skip=>wj tb (.skip) fun _ σ _ κ γ emb=>κ γ emb .normal σ
 |.label _=>wj tb (.label default) fun _ σ _ κ γ emb=>κ γ emb .normal σ
 |.ret=>wj tb (.ret) fun _ σ _ κ γ emb=>κ γ emb .ret σ
 |.exit n=>wj tb (.exit n) fun _ σ _ κ γ emb=>κ γ emb (.exit n) σ
 |.seq x y=>wj tb (.seq x y) fun an σ β κ γ emb=>yG x an.l1 σ β (kS (yG y) an.r1 κ) γ emb
 |.cond c x y=>wj tb (.cond c x y) fun an σ β κ γ emb=>match c with
  |.tmp t=>match σ.get t with
   |some (bT,.one v)=>(match v with
    |.tt true=>yG x an.l1 σ β κ γ emb
    |.tt false=>yG y an.r1 σ β κ γ emb
    |.bo _ p d _=>@ite _ p d (yG x an.l1 (σ.jm bT true) β κ γ emb) (yG y an.r1 (σ.jm bT false) β κ γ emb)
    |.na true _=>agree (yG x an.l1 (σ.jm bT true) β κ γ emb) (yG y an.r1 (σ.jm bT false) β κ γ emb)
    |.na false true=>yG x an.l1 (σ.jm bT true) β κ γ emb
    |.na false false=>yG y an.r1 (σ.jm bT false) β κ γ emb
    |_=>none)
   |_=>none
  |.const (.bool true)=>yG x an.l1 σ β κ γ emb
  |.const (.bool false)=>yG y an.r1 σ β κ γ emb
  |_=>none
 |.block id body=>wj tb (.block id body) fun an σ β κ γ emb=>yG body an.l1 σ β (kB id κ) γ emb
 |.scope body=>wj tb (.scope body) fun an σ β κ γ emb=>yG body an.l1 σ β κ γ emb
 |.loop body=>wj tb (.loop body) fun an σ _ κ γ emb=>match an with
  |.lp J a=>(pack tb (J.at_ (.loop body) σ.fb) σ σ).bind fun z0=>Iter (fun z=>match unpack tb (J.at_ (.loop body) σ.fb) σ z with
   |some σ1=>yG body a σ1 (HT S J.ls⊕γ) (kJ tb (J.at_ (.loop body) σ.fb) σ κ emb) (HT S J.ls⊕γ) id
   |none=>none) z0
  |.mr J q a=>(match body with
   |.seq (.region _ ops false) (.seq (.cond (.tmp c') .skip (.exit out)) rest)=>(match hd2 ops with
    |some (it,nx,c)=>(match Nat.beq c' c with
     |true=>WD tb (J.at_ (.loop body) σ.fb) q σ it nx c out (fun σ2 β κ γ emb=>yG rest a σ2 β κ γ emb) κ emb
     |false=>none)
    |none=>none)
   |_=>none)
  |_=>none
 |.region _ ops draw=>wj tb (.region default ops draw) fun _ σ _ κ γ emb=>pf tb tt Φ fa (!draw) ops ops.toList 0 σ [] fun σ' lg=>match !draw||(xJ ops lg&&gD (σ'.ob.map (·.1)))with
  |true=>κ γ emb .normal σ'
  |false=>none
 |.rangeFunc g ps x y=>wj tb (.rangeFunc g ps x y) fun _ σ _ κ γ emb=>match fa.rd,σ.fb,pz tt σ 0 g with
  |false,0,some (.one (.fn (.func f) [] caps))=>(match Nat.ble f 999999 with
   |true=>(match fa.nd.any fun c=>Nat.beq c.f f with
    |false=>o8 tb f (.one (.yl (σ.ct+1))::caps.map yL) (my σ (.loop (fa.fn*1000+tM x) .ready σ.tm)).ob (σ.ct+64) (fun r=>match gD (r.rd++r.rm)with
     |true=>kb (σ.ct+1) ((my σ (.loop (fa.fn*1000+tM x) .ready σ.tm)).la none none r) κ emb
     |false=>none) Φ
    |true=>mb tb f (.one (.yl (σ.ct+1))::caps.map yL) (my σ (.loop (fa.fn*1000+tM x) .ready σ.tm)).ob (σ.ct+64) (fun r=>kb (σ.ct+1) ((my σ (.loop (fa.fn*1000+tM x) .ready σ.tm)).la none none r) κ emb) fa.nd)
   |false=>none)
  |_,_,_=>none
 |.goto _=>fun _ _ _ _ _ _=>none
 |.refuse _=>fun _ _ _ _ _ _=>none
def sO:Nat->List (AV S)->List (Nat×Nat×AV S)
 |_,[]=>[]
 |i,a::l=>(i,64+i,a)::sO (i+1) l
def start(c:dS S)(x:HT S c.ls):Option (AS S):=
 (ni c.bk (qB c.ls x)).bind fun ds=>(PS.eS tb id c.ins ds).bind fun p=>(OS.eS tb id c.fm p.2).bind fun q=>
 some {tm:=sO 0 p.1,ob:=JP 0 q.1,ct:=256,fb:=0,rt:=List.range c.fm.length}
def pB(tt:TypeId->Option (TI S))(σ:AS S):List ResultVar->Option (List (AV S))
 |[]=>some []
 |.tmp t::l=>(σ.get t).bind fun a=>(pB tt σ l).map (a.2:: ·)
 |.cell t ty::l=>(σ.get t).bind fun a=>match a.2 with
  |.one (.ptr o 0)=>(look o σ.ob).bind fun b=>match b.2 with
   |.box _ cs=>(tt ty).bind fun i=>(match fu i.d with|true=>(qx i.size cs).map AV.agg|false=>(ta 0 cs).map AV.one).bind fun v=>(pB tt σ l).map (v:: ·)
   |_=>none
  |_=>none
def DF:List (AV S)->AV S
 |[a]=>a
 |l=>.dD l
def OS.hU(ob:List (Nat×Nat×AO S))(mp:List (Nat×Nat)):Nat->List KS->Option (List (ic S)×List (Nat×Nat))
 |_,[]=>some ([],mp)
 |o,.now s::l=>(look o mp).bind fun q=>(look q ob).bind fun a=>(OS.take tb mp s a.2).bind fun p=>(OS.hU ob p.2 (o+1) l).map fun r=>(p.1++r.1,r.2)
 |o,_::l=>OS.hU ob mp (o+1) l
def OI:Nat->List Nat->List (Nat×Nat)
 |_,[]=>[]
 |i,x::l=>(i,x)::OI (i+1) l
def Df(σ0 σ:AS S):Nat->List KS->Bool
 |_,[]=>true
 |o,.kept::l=>(match σ.rt[o]? with|some q=>Nat.beq q o|none=>false)&&(match look o σ0.ob,look o σ.ob with|some x,some y=>Nat.beq x.1 y.1|_,_=>false)&&Df σ0 σ (o+1) l
 |o,_::l=>Df σ0 σ (o+1) l
def kH(mp:List (Nat×Nat)):Nat->List KS->List Nat
 |_,[]=>[]
 |o,.now _::l=>match look o mp with|some q=>q::kH mp (o+1) l|none=>kH mp (o+1) l
 |o,_::l=>kH mp (o+1) l
def jg:Nat->List KS->List Nat
 |_,[]=>[]
 |o,.kept::l=>o::jg (o+1) l
 |o,_::l=>jg (o+1) l
def finish(n:Nat)(o:Out)(v:AV S)(σ0 σ:AS S):Option (HT S o.vm):=
 (PS.take tb (OI 0 σ.rt) o.out v).bind fun p=>(OS.hU tb σ.ob p.2 0 o.gu).bind fun q=>
 match Df σ0 σ 0 o.gu&&(gD (jg 0 o.gu++kH q.2 0 o.gu)&&Nat.beq σ.rt.length n&&q.2.all fun p=>Nat.ble (p.1+1) o.gu.length)with
 |true=>(ni o.pm' (p.1++q.1)).bind (su o.vm)
 |false=>none
def cl(n:Nat)(v:AV S)(σ0 σ:AS S):(os:List Out)->Option (jo S os)
 |[]=>none
 |[o]=>finish tb n o v σ0 σ
 |o::p::os=>match finish tb n o v σ0 σ with
  |some z=>some (Sum.inl z)
  |none=>(cl n v σ0 σ (p::os)).map Sum.inr
noncomputable def evF(c:dS S)(rs:List ResultVar)(body:Code)(an:An)(x:HT S c.ls):Option (jo S c.outs):=
 match start tb c x with
 |some σ0=>yG tb tt Φ fa body an σ0 (jo S c.outs) (fun _ e' ex σ=>match ex with
  |.exit _=>none
  |_=>(EW fa.pre σ).bind fun σ=>(pB tt σ rs).bind fun vs=>(cl tb c.fm.length (DF vs) σ0 σ c.outs).bind fun y=>some (e' y)) (jo S c.outs) id
 |none=>none
def DQ:List Nat->List (Nat×Nat×AV S)->List (Nat×Nat×AV S)->Option (List (Nat×Nat×AV S))
 |[],[],tm=>some tm
 |p::ps,(_,bT,v)::l,tm=>DQ ps l ((p,bT,v)::qz p tm)
 |_,_,_=>none
def TG:Nat->List (Nat×Nat×AV S)->List (Nat×Nat×AV S)
 |_,[]=>[]
 |v,(t,_,x)::l=>(t,v,x)::TG (v+1) l
def Uo(r:Nat)(ps:List Nat)(σ:AS S):Option (AS S):=match look 0 σ.ob,σ.tm with
 |some (_,.loop r' .ready tm),(_,_,.one (.yl 0))::l=>(match Nat.beq r' r&&Nat.ble tm.length 200 with|true=>(DQ ps l (TG 300 tm)).map fun tm'=>{σ with tm:=tm',ct:=512}|false=>none)
 |_,_=>none
def Dn(st0 st:LS)(σ:AS S):Option (AS S):=(σ.rt[0]?).bind fun q=>(look q σ.ob).bind fun a=>match a.2 with
 |.loop r st1 tm=>(match LS.same st1 st0 with|true=>some {σ with ob:=(q,σ.ct+32,.loop r st tm)::dH [q] σ.ob,ct:=σ.ct+64}|false=>none)
 |_=>none
def exB:QY->Bool
 |.normal=>true
 |_=>false
def Wy:QY->LS
 |.normal=>.ready
 |e=>.done e
noncomputable def evY(c:dS S)(r:Nat)(ps:List Nat)(aS body:Code)(an:An)(x:HT S c.ls):Option (jo S c.outs):=
 match start tb c x with
 |some σ0=>(match Uo r ps σ0 with
  |some σ1=>yG tb tt Φ fa aS an.l1 σ1 (jo S c.outs) (fun _ e' ex σ2=>match ex with
   |.normal=>(Dn .ready .busy σ2).bind fun σ3=>yG tb tt Φ fa body an.r1 σ3 (jo S c.outs) (fun _ e2 ex σ4=>(Dn .busy (Wy ex) σ4).bind fun σ5=>
    (EW fa.pre σ5).bind fun σ6=>(cl tb c.fm.length (.one (.tt (exB ex))) σ0 σ6 c.outs).bind fun y=>some (e2 y)) _ e'
   |_=>none) (jo S c.outs) id
  |none=>none)
 |none=>none
end
end E
end Go.Proofs.YtjfkdglgecgjfaaGreat
