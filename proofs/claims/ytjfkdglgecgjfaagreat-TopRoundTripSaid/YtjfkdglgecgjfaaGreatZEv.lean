/- Part of the proof. -/
import Derived.Test.YtjfkdglgecgjfaaGreatZRange
namespace Go.Proofs.YtjfkdglgecgjfaaGreat
open Go.RowKit G
namespace E
inductive Co where
 |int (k:IntKind)
 |u8
 |bo
 |str
 |sl (c:Co)
 |st (i:Nat)
 |a8 (n:Nat)
 |ai (n:Nat) (k:IntKind)
 |mp (k v:Co)
 deriving DecidableEq,Inhabited
def T(S:Nat->Type):Co->Type
 |.int _=>Int
 |.u8=>UInt8
 |.bo=>Bool
 |.str=>List UInt8
 |.sl c=>List (T S c)
 |.st i=>S i
 |.a8 _=>Nat->UInt8
 |.ai _ _=>Nat->Int
 |.mp k v=>List (T S k×T S v)
def HL(S:Nat->Type):List Co->Type
 |[]=>Unit
 |c::cs=>T S c×HL S cs
def HT(S:Nat->Type):List Co->Type
 |[]=>Unit
 |[c]=>T S c
 |c::d::cs=>T S c×HT S (d::cs)
variable (S:Nat->Type)
inductive CV where
 |int (k:IntKind) (x:Int)
 |u8 (x:UInt8)
 |bo (b:Bool) (p:Prop) (d:Decidable p) (h:b=true↔p)
 |tt (b:Bool)
 |str (l:List UInt8)
 |sl (c:Co) (l:List (T S c))
 |S6 (c:Co) (l:List (T S c))
 |rw(o:Nat) (c:Co) (l:List (T S c))
 |aw (o:Nat)
 |dW
 |a8 (n:Nat) (f:Nat->UInt8)
 |ai (n:Nat) (k:IntKind) (f:Nat->Int)
 |ptr (o off:Nat)
 |iV
 |el (c:Co) (x:T S c) (off:Nat)
 |GN (o:Nat) (v:Nat) (c:Co) (x:T S c) (j:Int) (off:Nat)
 |NJ (o off n:Nat) (i:Int)
 |px (o off n:Nat) (i j:Int)
 |fn (f:Fn) (first caps:List CV)
 |ag (xs:List CV)
 |ez
 |xN
 |uM
 |yl (o:Nat)
 |na (e neg:Bool)
 |rz (o:Nat) (c:Co) (n:Int)
 |pt (o:Nat) (c:Co) (off n:Int)
 |mp (o:Nat)
 |Td (o q:Nat)
 |R9 (q:Nat)
 deriving Inhabited
inductive AV where
 |one (v:CV S)
 |agg (vs:List (CV S))
 |dv (vs:List AV)
 deriving Inhabited
def AV.fg:AV S:=.dv []
inductive QK where
 |normal
 |ret
 |exit (n:Nat)
inductive LS where
 |ready
 |busy
 |done (e:QK)
def LS.same:LS->LS->Bool
 |.ready,.ready=>true
 |.busy,.busy=>true
 |.done .normal,.done .normal=>true
 |.done .ret,.done .ret=>true
 |.done (.exit n),.done (.exit k)=>Nat.beq n k
 |_,_=>false
inductive AO where
 |box (T:TypeId) (cs:List (CV S))
 |row (e:TypeId) (c:Co)
 |arr (e:TypeId) (c:Co) (full:Bool) (l:List (T S c))
 |loop (r:Nat) (st:LS) (tm:List (Nat×Nat×AV S))
 |map (t:TypeId) (kc vc:Co) (l:List (T S kc×T S vc)) (hole:Option (T S kc×Nat))
 |nI (t et:TypeId) (kc c:Co) (l:List (T S kc×List (T S c))) (hole:Option (T S kc))
 |BD (t:TypeId) (kc:Co) (l:List (T S kc×CV S))
 |jv (t:TypeId) (kc vc:Co) (l:List (T S kc×T S vc)) (hole:Option (T S kc×Nat)) (q:Nat)
 |pO (kc:Co) (o:Nat) (st:Option (Option (T S kc)))
 deriving Inhabited
structure AS where
 tm:List (Nat×Nat×AV S)
 ob:List (Nat×Nat×AO S)
 ct:Nat
 fb:Nat
 rt:List Nat
structure SD(σ:Type) where
 fs:List Co
 to:σ->HL S fs
 of:HL S fs->σ
variable {S}
def look{α:Type}(t:Nat):List (Nat×α)->Option α
 |[]=>none
 |(u,x)::l=>match Nat.beq u t with|true=>some x|false=>look t l
def pG{α:Type}(t:Nat):List (Nat×α)->List (Nat×α)
 |[]=>[]
 |(u,x)::l=>match Nat.beq u t with|true=>l|false=>(u,x)::pG t l
inductive TD where
 |int (k:IntKind)
 |bool
 |str
 |ptr (e:TypeId)
 |slice (e:TypeId)
 |array (n:Nat) (e:TypeId)
 |struct (fs:List (TypeId×Nat×Nat))
 |func
 |iface
 |map (k v:TypeId)
 deriving Inhabited
variable (S)
structure TI where
 d:TD
 size:Nat
 bytes:Nat
 zero:List (CV S)
 co:Co:=.bo
 eq:Bool:=false
 deriving Inhabited
variable {S}
def ep:TD->Bool
 |.struct _=>true
 |.array _ _=>true
 |_=>false
def CV.n:CV S->Nat
 |.a8 n _=>n
 |.ai n _ _=>n
 |_=>1
def ml:AV S->Option (List (CV S))
 |.one v=>some [v]
 |.agg vs=>some vs
 |.dv _=>none
def nC:Nat->List (CV S)->Option (List (CV S))
 |0,_=>some []
 |_+1,[]=>none
 |n+1,v::vs=>match Nat.ble v.n (n+1)with|true=>(nC (n+1-v.n) vs).map (v:: ·)|false=>none
def cutAt:Nat->List (CV S)->Option (List (CV S))
 |0,vs=>some vs
 |_+1,[]=>none
 |o+1,v::vs=>match Nat.ble v.n (o+1)with|true=>cutAt (o+1-v.n) vs|false=>none
def qg:Nat->List (CV S)->Option (CV S)
 |_,[]=>none
 |o,v::vs=>match Nat.ble v.n o with
  |true=>qg (o-v.n) vs
  |false=>match v with
   |.a8 _ f=>some (.u8 (f o))
   |.ai _ k f=>some (.int k (f o))
   |v=>some v
def VB(o n:Nat)(xs vs:List (CV S)):Option (List (CV S)):=
 (nC o vs).bind fun a=>(cutAt (o+n) vs).map fun b=>a++(xs++b)
def O9:Nat->CV S->List (CV S)->Option (List (CV S))
 |_,_,[]=>none
 |o,x,v::vs=>match Nat.ble v.n o with
  |true=>(O9 (o-v.n) x vs).map (v:: ·)
  |false=>match v,x with
   |.a8 n f,.u8 y=>some (.a8 n (qR f o y)::vs)
   |.ai n k f,.int k' y=>match decEq k' k with|isTrue _=>some (.ai n k (qR f o y)::vs)|isFalse _=>none
   |.a8 _ _,_=>none
   |.ai _ _ _,_=>none
   |_,x=>some (x::vs)
def Iw(vs:List (CV S)):Nat:=(vs.map CV.n).sum
variable (S) in
abbrev Tb:=(i:Nat)->SD S (S i)
variable (tb:Tb S)
def toCV:(c:Co)->T S c->CV S
 |.int k,x=>.int k x
 |.u8,x=>.u8 x
 |.bo,(b:Bool)=>.bo b (b=true) inferInstance Iff.rfl
 |.str,l=>.str l
 |.sl c,l=>.sl c l
 |.st _,_=>.uM
 |.a8 n,f=>.a8 n f
 |.ai n k,f=>.ai n k f
 |.mp _ _,_=>.uM
def toCVs:(cs:List Co)->HL S cs->List (CV S)
 |[],_=>[]
 |c::cs,h=>toCV c h.1::toCVs cs h.2
def MS:(c:Co)->T S c->List (CV S)
 |.st i,x=>toCVs (tb i).fs ((tb i).to x)
 |c,x=>[toCV c x]
def WS:(cs:List Co)->HL S cs->HL S cs->Bool
 |[],_,_=>true
 |.int _::cs,a,b=>sC a.1 b.1&&WS cs a.2 b.2
 |_::_,_,_=>false
def gv:(c:Co)->T S c->T S c->Bool
 |.int _=>sC
 |.str=>PY
 |.st i=>fun x y=>WS (tb i).fs ((tb i).to x) ((tb i).to y)
 |_=>fun _ _=>false
def zM:Co->Bool
 |.int .u8=>false
 |.int _=>true
 |.str=>true
 |.st i=>(tb i).fs.all fun c=>match c with| .int .u8=>false| .int _=>true|_=>false
 |_=>false
def KF:Co->Bool
 |.int _=>true
 |.u8=>true
 |.bo=>true
 |.str=>true
 |_=>false
def fS{a b c d:Co}(h:a=c)(k:b=d)(l:List (T S a×T S b)):List (T S c×T S d):=h▸k▸l
def wY{a b c d:Co}(h:a=c)(k:b=d)(l:List (T S a×List (T S b))):List (T S c×List (T S d)):=h▸k▸l
def kC{c d:Co}(h:c=d)(l:List (T S c)):List (T S d):=h▸l
def Mi:(c:Co)->CV S->Option (T S c)
 |.int k,.int k' x=>match decEq k k' with|isTrue _=>some x|isFalse _=>none
 |.u8,.u8 x=>some x
 |.bo,.bo b _ _ _=>some b
 |.bo,.tt b=>some b
 |.str,.str l=>some l
 |.sl c,.sl d l=>match decEq d c with|isTrue h=>some (kC h l)|isFalse _=>none
 |.sl c,.S6 d l=>match decEq d c with|isTrue h=>some (kC h l)|isFalse _=>none
 |.sl c,.rw _ d l=>match decEq d c with|isTrue h=>some (kC h l)|isFalse _=>none
 |.sl _,.dW=>some []
 |.a8 n,.a8 n' f=>match Nat.beq n n'&&Nat.ble 1 n with|true=>some f|false=>none
 |.ai n k,.ai n' k' f=>match Nat.beq n n'&&Nat.ble 1 n,decEq k k' with|true,isTrue _=>some f|_,_=>none
 |_,_=>none
def Cp:(cs:List Co)->List (CV S)->Option (HL S cs×List (CV S))
 |[],vs=>some ((),vs)
 |_::_,[]=>none
 |c::cs,v::vs=>(Mi c v).bind fun x=>(Cp cs vs).map fun p=>((x,p.1),p.2)
def pk:(c:Co)->List (CV S)->Option (T S c×List (CV S))
 |.st i,vs=>(Cp (tb i).fs vs).map fun p=>((tb i).of p.1,p.2)
 |_,[]=>none
 |c,v::vs=>(Mi c v).map fun x=>(x,vs)
def ym(c:Co)(vs:List (CV S)):Option (T S c):=(pk tb c vs).bind fun p=>match p.2 with| []=>some p.1|_::_=>none
def S7(c:Co):CV S->Option (List (T S c)):=Mi (.sl c)
def num:CV S->Option (IntKind×Int)
 |.int k x=>match k with| .u8=>none|k=>some (k,x)
 |.u8 x=>some (.u8,(x.toNat:Int))
 |_=>none
def nQ(k:IntKind)(x:Int):CV S:=match k with| .u8=>.u8 (G.u8 x)|k=>.int k x
def Tn(k:IntKind)(x:Int):CV S:=match k with| .u8=>.u8 (G.u8 x)|k=>.int k (k.wrap x)
def Q9(p:Prop)[d:Decidable p]:CV S:=.bo (decide p) p d (decide_eq_true_iff)
def Q6{α:Type}[DecidableEq α][BEq α][LawfulBEq α](a b:α):CV S:=.bo (a == b) (a=b) inferInstance beq_iff_eq
def Q8{α:Type}[DecidableEq α][BEq α][LawfulBEq α](a b:α):CV S:=.bo (a !=b) (a≠b) inferInstance bne_iff_ne
def Q5(b:Bool):CV S:=.bo b (b=true) inferInstance Iff.rfl
def Q7(b:Bool):CV S:=.bo (!b) (b=false) inferInstance (by cases b<;>simp)
def bit:CV S->Option Bool
 |.bo b _ _ _=>some b
 |.tt b=>some b
 |_=>none
def isNil:CV S->Option Bool
 |.iV=>some true
 |.ez=>some true
 |.xN=>some true
 |.uM=>some true
 |.dW=>some true
 |.ptr _ _=>some false
 |.fn _ _ _=>some false
 |.rw _ _ (_::_)=>some false
 |_=>none
def vH:List (CV S)->List (CV S)->Option (PSigma fun p:Prop=>Decidable p)
 |[.int _ x],[.int _ y]=>some ⟨x=y,inferInstance⟩
 |[.u8 x],[.u8 y]=>some ⟨(x.toNat:Int)=(y.toNat:Int),inferInstance⟩
 |.int _ x::v::vs,.int _ y::w::ws=>(vH (v::vs) (w::ws)).map fun p=>⟨x=y/\p.1,@instDecidableAnd _ _ inferInstance p.2⟩
 |.u8 x::v::vs,.u8 y::w::ws=>(vH (v::vs) (w::ws)).map fun p=>⟨(x.toNat:Int)=(y.toNat:Int)/\p.1,@instDecidableAnd _ _ inferInstance p.2⟩
 |[v],[w]=>(bit v).bind fun x=>(bit w).map fun y=>⟨x=y,inferInstance⟩
 |v::v'::vs,w::w'::ws=>(bit v).bind fun x=>(bit w).bind fun y=>(vH (v'::vs) (w'::ws)).map fun p=>⟨x=y/\p.1,@instDecidableAnd _ _ inferInstance p.2⟩
 |_,_=>none
def kindOk:List (CV S)->List (CV S)->Bool
 |[],[]=>true
 |.int k _::z,.int k' _::v=>decide (k=k')&&kindOk z v
 |.u8 _::z,.u8 _::v=>kindOk z v
 |.tt _::z,.bo _ _ _ _::v=>kindOk z v
 |.tt _::z,.tt _::v=>kindOk z v
 |_,_=>false
def Dr:Operand->Bool
 |.const (.int _ n)=>decide (0<n)
 |_=>false
def J3:Operand->Bool
 |.const (.int _ n)=>decide (0<=n)
 |_=>false
section
variable {γ:Type}
def U0(v:CV S)(k:Bool->Option γ):Option γ:=match v with
 |.tt b=>k b
 |.bo _ p d _=>@ite _ p d (k true) (k false)
 |_=>none
def nf(op:BinOp)(kv kw:IntKind)(x z:Int)(y:Operand)(k:CV S->Option γ):Option γ:=
 match op with
 |.shl=>(match J3 y with|true=>k (nQ kv (xK kv x z))|false=>(l9 (0<=z)).bind fun _=>k (nQ kv (xK kv x z)))
 |.shr=>(match J3 y with|true=>k (nQ kv (o7 kv x z))|false=>(l9 (0<=z)).bind fun _=>k (nQ kv (o7 kv x z)))
 |op=>match decEq kv kw with
  |isFalse _=>none
  |isTrue _=>match op with
   |.lss=>k (Q9 (x<z))
   |.leq=>k (Q9 (x<=z))
   |.gtr=>k (Q9 (x>z))
   |.geq=>k (Q9 (x≥z))
   |.eql=>k (Q6 x z)
   |.neq=>k (Q8 x z)
   |.add=>k (Tn kv (x+z))
   |.sub=>k (Tn kv (x-z))
   |.mul=>k (Tn kv (x*z))
   |.and=>k (nQ kv (G4 kv x z))
   |.or=>k (nQ kv (Ug kv x z))
   |.xor=>k (nQ kv (Lw kv x z))
   |.andNot=>k (nQ kv (Jc kv x z))
   |.quo=>(match Dr y with|true=>k (Tn kv (Int.tdiv x z))|false=>(l9 (z≠0)).bind fun _=>k (Tn kv (Int.tdiv x z)))
   |.rem=>(match Dr y with|true=>k (nQ kv (Int.tmod x z))|false=>(l9 (z≠0)).bind fun _=>k (nQ kv (Int.tmod x z)))
   |_=>none
def lK(op:BinOp)(a b:CV S)(k:CV S->Option γ):Option γ:=match op with
 |.eql=>k a
 |.neq=>k b
 |_=>none
def Uu(tt:TypeId->Option (TI S))(op:BinOp)(xT:TypeId)(a b:AV S)(k:CV S->Option γ):Option γ:=
 (tt xT).bind fun ti=>match ti.d,a,b with
 |.str,.one (.str x),.one (.str z)=>lK op (Q9 (x=z)) (Q7 (decide (x=z))) k
 |.bool,.one v,.one w=>(bit v).bind fun x=>(bit w).bind fun z=>lK op (Q6 x z) (Q8 x z) k
 |.ptr _,.one .iV,.one .iV=>lK op (.tt true) (.tt false) k
 |.ptr _,.one (.ptr _ _),.one .iV=>lK op (.tt false) (.tt true) k
 |.ptr _,.one .iV,.one (.ptr _ _)=>lK op (.tt false) (.tt true) k
 |.func,.one .ez,.one .ez=>lK op (.tt true) (.tt false) k
 |.func,.one (.fn _ _ _),.one .ez=>lK op (.tt false) (.tt true) k
 |.slice _,.one .dW,.one .dW=>lK op (.tt true) (.tt false) k
 |.slice _,.one (.sl _ l),.one .dW=>lK op (.na l.isEmpty false) (.na l.isEmpty true) k
 |.slice _,.one (.rw _ _ (_::_)),.one .dW=>lK op (.tt false) (.tt true) k
 |.array n e,.agg [.a8 n1 f],.agg [.a8 n2 g]=>(tt e).bind fun ei=>match ei.d,Nat.beq n 32&&Nat.beq n1 32&&Nat.beq n2 32&&ti.eq with
  |.int .u8,true=>lK op (Q5 (ic f g)) (Q7 (ic f g)) k
  |_,_=>none
 |.struct _,.agg vs,.agg ws=>match ti.eq&&kindOk ti.zero vs&&kindOk ti.zero ws with
  |true=>(vH vs ws).bind fun p=>lK op (@Q9 _ p.1 p.2) (Q7 (@decide p.1 p.2)) k
  |false=>none
 |_,_,_=>none
def Lu(tt:TypeId->Option (TI S))(op:BinOp)(xT:TypeId)(y:Operand)(a b:AV S)(k:CV S->Option γ):Option γ:=
 match a,b with
 |.one v,.one w=>
  match num v,num w with
  |some (kv,x),some (kw,z)=>nf op kv kw x z y k
  |_,_=>Uu tt op xT a b k
 |_,_=>Uu tt op xT a b k
end
inductive CS where
 |hU (c:Co)
 |rw(o:Nat) (c:Co)
 |aw (o:Nat)
 |ptr (o off:Nat)
 |iV
 |ez
 |fn (f:FuncId) (first caps:List CS)
 |tt (b:Bool)
 |dW
 |yl (o:Nat)
 |XU (o:Nat)
 deriving Inhabited
inductive PS where
 |one (s:CS)
 |agg (l:List CS)
 |dv (l:List PS)
 deriving Inhabited
inductive OS where
 |box (T:TypeId) (l:List CS)
 |row (e:TypeId) (c:Co)
 |arr (e:TypeId) (c:Co) (full:Bool)
 |loop (r:Nat) (st:LS) (MR:List (Nat×PS))
 |map (t:TypeId) (kc vc:Co)
 |nI (t et:TypeId) (kc c:Co)
 |jv (t:TypeId) (kc vc:Co) (q:Nat)
 |pO (kc:Co) (o:Nat)
 deriving Inhabited
variable (S) in
abbrev fC:=(c:Co)×T S c
def vq:CV S->AV S
 |.ag xs=>.agg xs
 |v=>.one v
def X9:CV S->Bool
 |.ag _=>false
 |_=>true
def SE(v:CV S):Bool:=Nat.beq v.n 1
mutual
def CS.fill(ids:Nat->Nat):CS->List (fC S)->Option (List (CV S)×List (fC S))
 |.hU c,⟨c',x⟩::ds=>match decEq c' c with|isTrue h=>some (MS tb c (h▸x),ds)|isFalse _=>none
 |.rw o c,⟨c',x⟩::ds=>match decEq c' (.sl c)with|isTrue h=>some ([.rw (ids o) c (show List (T S c) from(h▸x:T S (.sl c)))],ds)|isFalse _=>none
 |.hU _,[]=>none
 |.rw _ _,[]=>none
 |.aw o,ds=>some ([.aw (ids o)],ds)
 |.ptr o off,ds=>some ([.ptr (ids o) off],ds)
 |.iV,ds=>some ([.iV],ds)
 |.ez,ds=>some ([.ez],ds)
 |.tt b,ds=>some ([.tt b],ds)
 |.dW,ds=>some ([.dW],ds)
 |.yl o,ds=>some ([.yl (ids o)],ds)
 |.XU o,ds=>some ([.mp (ids o)],ds)
 |.fn f xs ys,ds=>(CS.dP ids xs ds).bind fun p=>(CS.dP ids ys p.2).bind fun q=>match p.1.all SE&&q.1.all SE with|true=>some ([.fn (.func f) p.1 q.1],q.2)|false=>none
def CS.dP(ids:Nat->Nat):List CS->List (fC S)->Option (List (CV S)×List (fC S))
 |[],ds=>some ([],ds)
 |s::l,ds=>(CS.fill ids s ds).bind fun p=>(CS.dP ids l p.2).map fun q=>(p.1++q.1,q.2)
end
mutual
def PS.fill(ids:Nat->Nat):PS->List (fC S)->Option (AV S×List (fC S))
 |.one s,ds=>(CS.fill tb ids s ds).bind fun p=>match p.1 with| [v]=>some (.one v,p.2)|_=>none
 |.agg l,ds=>(CS.dP tb ids l ds).map fun p=>(.agg p.1,p.2)
 |.dv l,ds=>(PS.dP ids l ds).map fun p=>(.dv p.1,p.2)
def PS.dP(ids:Nat->Nat):List PS->List (fC S)->Option (List (AV S)×List (fC S))
 |[],ds=>some ([],ds)
 |s::l,ds=>(PS.fill ids s ds).bind fun p=>(PS.dP ids l p.2).map fun q=>(p.1::q.1,q.2)
end
def rC(ids:Nat->Nat)(bN:Nat):List (Nat×PS)->List (fC S)->Option (List (Nat×Nat×AV S)×List (fC S))
 |[],ds=>some ([],ds)
 |(t,s)::l,ds=>(PS.fill tb ids s ds).bind fun p=>(rC ids (bN+1) l p.2).map fun q=>((t,bN,p.1)::q.1,q.2)
def OS.fill(ids:Nat->Nat):OS->List (fC S)->Option (AO S×List (fC S))
 |.box T l,ds=>(CS.dP tb ids l ds).map fun p=>(.box T p.1,p.2)
 |.row e c,ds=>some (.row e c,ds)
 |.arr e c full,⟨c',x⟩::ds=>match decEq c' (.sl c)with|isTrue h=>some (.arr e c full (show List (T S c) from(h▸x:T S (.sl c))),ds)|isFalse _=>none
 |.arr _ _ _,[]=>none
 |.loop r st MR,ds=>(rC tb ids 300 MR ds).map fun p=>(.loop r st p.1,p.2)
 |.map t kc vc,⟨c',x⟩::ds=>match decEq c' (.mp kc vc)with|isTrue h=>some (.map t kc vc (show List (T S kc×T S vc) from(h▸x:T S (.mp kc vc))) none,ds)|isFalse _=>none
 |.map _ _ _,[]=>none
 |.nI t et kc c,⟨c',x⟩::ds=>match decEq c' (.mp kc (.sl c))with|isTrue h=>some (.nI t et kc c (show List (T S kc×List (T S c)) from(h▸x:T S (.mp kc (.sl c)))) none,ds)|isFalse _=>none
 |.nI _ _ _ _,[]=>none
 |.jv t kc vc q,⟨c',x⟩::ds=>match decEq c' (.mp kc vc)with|isTrue h=>some (.jv t kc vc (show List (T S kc×T S vc) from(h▸x:T S (.mp kc vc))) none (ids q),ds)|isFalse _=>none
 |.jv _ _ _ _,[]=>none
 |.pO kc o,ds=>some (.pO kc (ids o) (some none),ds)
def OS.dP(ids:Nat->Nat):List OS->List (fC S)->Option (List (AO S)×List (fC S))
 |[],ds=>some ([],ds)
 |s::l,ds=>(OS.fill tb ids s ds).bind fun p=>(OS.dP ids l p.2).map fun q=>(p.1::q.1,q.2)
def Ti(mp:List (Nat×Nat))(o q:Nat):Option (List (Nat×Nat)):=match look o mp with
 |some r=>match Nat.beq r q with|true=>some mp|false=>none
 |none=>match(mp.any fun p=>Nat.beq p.2 q)||!Nat.ble o 200 with|true=>none|false=>some ((o,q)::mp)
variable (S) in
abbrev Tk:=List (fC S)×List (CV S)×List (Nat×Nat)
mutual
def CS.take(mp:List (Nat×Nat)):CS->List (CV S)->Option (Tk S)
 |.hU c,vs=>(pk tb c vs).map fun p=>([⟨c,p.1⟩],p.2,mp)
 |.rw o c,.rw q d l::vs=>match decEq d c with|isTrue h=>(Ti mp o q).map fun mp=>([⟨.sl c,kC h l⟩],vs,mp)|isFalse _=>none
 |.aw o,.aw q::vs=>(Ti mp o q).map fun mp=>([],vs,mp)
 |.ptr o off,.ptr q off'::vs=>match Nat.beq off off' with|true=>(Ti mp o q).map fun mp=>([],vs,mp)|false=>none
 |.iV,.iV::vs=>some ([],vs,mp)
 |.ez,.ez::vs=>some ([],vs,mp)
 |.tt b,.tt c::vs=>(match b == c with|true=>some ([],vs,mp)|false=>none)
 |.dW,.dW::vs=>some ([],vs,mp)
 |.yl o,.yl q::vs=>(Ti mp o q).map fun mp=>([],vs,mp)
 |.XU o,.mp q::vs=>(Ti mp o q).map fun mp=>([],vs,mp)
 |.fn f xs ys,.fn (.func g) first caps::vs=>match Nat.beq f g&&(first.all X9&&caps.all X9)with
  |true=>(CS.takes mp xs first).bind fun p=>match p.2.1 with
   |[]=>(CS.takes p.2.2 ys caps).bind fun q=>match q.2.1 with| []=>some (p.1++q.1,vs,q.2.2)|_::_=>none
   |_::_=>none
  |false=>none
 |_,_=>none
def CS.takes(mp:List (Nat×Nat)):List CS->List (CV S)->Option (Tk S)
 |[],vs=>some ([],vs,mp)
 |s::l,vs=>(CS.take mp s vs).bind fun p=>(CS.takes p.2.2 l p.2.1).map fun q=>(p.1++q.1,q.2.1,q.2.2)
end
mutual
def PS.take(mp:List (Nat×Nat)):PS->AV S->Option (List (fC S)×List (Nat×Nat))
 |.one s,.one v=>(CS.take tb mp s [v]).bind fun p=>match p.2.1 with| []=>some (p.1,p.2.2)|_::_=>none
 |.agg l,.agg vs=>(CS.takes tb mp l vs).bind fun p=>match p.2.1 with| []=>some (p.1,p.2.2)|_::_=>none
 |.dv l,.dv vs=>PS.takes mp l vs
 |_,_=>none
def PS.takes(mp:List (Nat×Nat)):List PS->List (AV S)->Option (List (fC S)×List (Nat×Nat))
 |[],[]=>some ([],mp)
 |s::l,v::vs=>(PS.take mp s v).bind fun p=>(PS.takes p.2 l vs).map fun q=>(p.1++q.1,q.2)
 |_,_=>none
end
def kY(tm:List (Nat×Nat×AV S))(mp:List (Nat×Nat)):List (Nat×PS)->Option (List (fC S)×List (Nat×Nat))
 |[]=>some ([],mp)
 |(t,s)::l=>(look t tm).bind fun a=>(PS.take tb mp s a.2).bind fun p=>(kY tm p.2 l).map fun r=>(p.1++r.1,r.2)
def OS.take(mp:List (Nat×Nat)):OS->AO S->Option (List (fC S)×List (Nat×Nat))
 |.box T l,.box T' vs=>match Nat.beq T T' with
  |true=>(CS.takes tb mp l vs).bind fun p=>match p.2.1 with| []=>some (p.1,p.2.2)|_::_=>none
  |false=>none
 |.row e c,.row e' c'=>match Nat.beq e e',decEq c c' with|true,isTrue _=>some ([],mp)|_,_=>none
 |.arr e c full,.arr e' c' full' l=>match Nat.beq e e',decEq c' c,!full||full' with|true,isTrue h,true=>some ([⟨.sl c,kC h l⟩],mp)|_,_,_=>none
 |.loop r st MR,.loop r' st' tm=>match Nat.beq r r'&&LS.same st st' with|true=>kY tb tm mp MR|false=>none
 |.map t kc vc,.map t' kc' vc' l none=>match Nat.beq t t',decEq kc' kc,decEq vc' vc with|true,isTrue h,isTrue k=>some ([⟨.mp kc vc,fS h k l⟩],mp)|_,_,_=>none
 |.nI t et kc c,.nI t' et' kc' c' l none=>match Nat.beq t t'&&Nat.beq et et',decEq kc' kc,decEq c' c with|true,isTrue h,isTrue k=>some ([⟨.mp kc (.sl c),wY h k l⟩],mp)|_,_,_=>none
 |.jv t kc vc q,.jv t' kc' vc' l none q'=>match Nat.beq t t',decEq kc' kc,decEq vc' vc with|true,isTrue h,isTrue k=>(Ti mp q q').map fun mp=>([⟨.mp kc vc,fS h k l⟩],mp)|_,_,_=>none
 |.pO kc o,.pO kc' o' _=>match decEq kc' kc with|isTrue _=>(Ti mp o o').map fun mp=>([],mp)|isFalse _=>none
 |_,_=>none
def OS.takes(ob:List (Nat×Nat×AO S))(mp:List (Nat×Nat)):Nat->List OS->Option (List (fC S)×List (Nat×Nat))
 |_,[]=>some ([],mp)
 |o,s::l=>(look o mp).bind fun q=>(look q ob).bind fun a=>(OS.take tb mp s a.2).bind fun p=>(OS.takes ob p.2 (o+1) l).map fun r=>(p.1++r.1,r.2)
def nG:(ls:List Co)->HT S ls->List (fC S)
 |[],_=>[]
 |[c],x=>[⟨c,x⟩]
 |c::d::cs,x=>⟨c,x.1⟩::nG (d::cs) x.2
def pI:(ls:List Co)->List (fC S)->Option (HT S ls)
 |[],[]=>some ()
 |[c],[⟨c',x⟩]=>match decEq c' c with|isTrue h=>some (h▸x)|isFalse _=>none
 |c::d::cs,⟨c',x⟩::ds=>match decEq c' c with|isTrue h=>(pI (d::cs) ds).map fun y=>(h▸x,y)|isFalse _=>none
 |_,_=>none
def Cu{α:Type}(l:List α):List Nat->Option (List α)
 |[]=>some []
 |i::is=>(l[i]?).bind fun x=>(Cu l is).map (x:: ·)
def kF(pm:List Nat)(ds:List (fC S)):Option (List (fC S)):=match pm with
 |[]=>some ds
 |_::_=>match Nat.beq ds.length pm.length with|true=>Cu ds pm|false=>none
def LM:List Nat->List Nat->Bool
 |[],[]=>true
 |x::l,y::l'=>Nat.beq x y&&LM l l'
 |_,_=>false
def F8(pm bk:List Nat):Bool:=match pm,bk with
 |[],[]=>true
 |_::_,_::_=>Nat.beq pm.length bk.length&&(match Cu pm bk with|some l=>LM l (List.range bk.length)|none=>false)
 |_,_=>false
inductive T8 where
 |own (e:TypeId) (c:Co)
 |arr (e:TypeId) (c:Co)
 |YS
structure JA where
 MR:List (Nat×PS):=[]
 eZ:List OS:=[]
 ls:List Co:=[]
 pm:List Nat:=[]
 bk:List Nat:=[]
 fx:List (Nat×Nat):=[]
 gone:List Nat:=[]
 kill:List Nat:=[]
 pre:List (Nat×Nat×T8):=[]
 early:Bool:=false
 TU:F8 pm bk=true:=by rfl
 vm:(Nat.ble MR.length 190&&Nat.ble eZ.length 190)=true:=by rfl
def has(t:Nat):List Nat->Bool
 |[]=>false
 |u::l=>match Nat.beq u t with|true=>true|false=>has t l
def o9(J:JA):List (Nat×Nat×AV S)->List (Nat×Nat×AV S)
 |[]=>[]
 |(t,x)::l=>match has t J.kill||J.MR.any fun p=>Nat.beq p.1 t with|true=>o9 J l|false=>(t,x)::o9 J l
mutual
def CV.ids:CV S->List Nat
 |.rw o _ _=>[o]
 |.aw o=>[o]
 |.ptr o _=>[o]
 |.GN o _ _ _ _ _=>[o]
 |.NJ o _ _ _=>[o]
 |.px o _ _ _ _=>[o]
 |.yl o=>[o]
 |.mp o=>[o]
 |.Td o _=>[o]
 |.R9 o=>[o]
 |.rz o _ _=>[o]
 |.pt o _ _ _=>[o]
 |.fn _ xs ys=>CV.Dm xs++CV.Dm ys
 |.ag xs=>CV.Dm xs
 |_=>[]
def CV.Dm:List (CV S)->List Nat
 |[]=>[]
 |v::vs=>CV.ids v++CV.Dm vs
end
mutual
def AV.ids:AV S->List Nat
 |.one v=>v.ids
 |.agg vs=>CV.Dm vs
 |.dv vs=>AV.Dm vs
def AV.Dm:List (AV S)->List Nat
 |[]=>[]
 |v::vs=>AV.ids v++AV.Dm vs
end
def AO.ids:AO S->List Nat
 |.box _ vs=>CV.Dm vs
 |.jv _ _ _ _ _ q=>[q]
 |.pO _ o _=>[o]
 |_=>[]
def GZ(xs ys:List Nat):List Nat:=xs.foldl (fun l x=>match has x l with|true=>l|false=>x::l) ys
def Pd(ob:List (Nat×Nat×AO S)):Nat->List Nat->List Nat
 |0,l=>l
 |n+1,l=>Pd ob n (l.foldl (fun r x=>match look x ob with|some a=>GZ a.2.ids r|none=>r) l)
def zJ(r:List Nat):List (Nat×Nat×AO S)->List (Nat×Nat×AO S)
 |[]=>[]
 |(q,x)::l=>match has q r with|true=>(q,x)::zJ r l|false=>zJ r l
def cZ(rm:List Nat):List (Nat×Nat×AO S)->List (Nat×Nat×AO S)
 |[]=>[]
 |(q,x)::l=>match has q rm with|true=>cZ rm l|false=>(q,x)::cZ rm l
def uC(J:JA)(σ:AS S):List (Nat×Nat×AO S):=
 cZ ((J.fx.filter fun r=>Nat.ble (r.1+1) J.eZ.length).map (·.2)++J.gone) (zJ (Pd σ.ob 4 (GZ σ.rt ((o9 J σ.tm).foldl (fun r x=>GZ x.2.2.ids r) []))) σ.ob)
def DZ(tm:List (Nat×Nat×AV S)):List (Nat×Nat×AV S)->Bool
 |[]=>true
 |(t,x)::l=>(match look t tm with|some y=>Nat.beq x.1 y.1|none=>false)&&DZ tm l
def DX(ob:List (Nat×Nat×AO S)):List (Nat×Nat×AO S)->Bool
 |[]=>true
 |(t,x)::l=>(match look t ob with|some y=>Nat.beq x.1 y.1|none=>false)&&DX ob l
def wi(mp:List (Nat×Nat)):Nat->Nat->List Nat
 |_,0=>[]
 |o,n+1=>match look o mp with|some q=>q::wi mp (o+1) n|none=>wi mp (o+1) n
def eY:List Nat->Bool
 |[]=>true
 |x::l=>match has x l with|true=>false|false=>eY l
def place(σ:AS S)(t i:Nat):Option (CV S):=match look t σ.tm with
 |some (_,.one v)=>(match i with
  |0=>some v
  |i+1=>match v with| .ptr o _=>(match look o σ.ob with|some (_,.box _ cs)=>cs[i]?|_=>none)|_=>none)
 |some (_,.agg vs)=>(match i with|0=>none|i+1=>vs[i]?)
 |_=>none
def qS(σ:AS S)(t i:Nat)(w:CV S):AS S:=match look t σ.tm with
 |some (bN,.one v)=>(match i with
  |0=>{σ with tm:=(t,bN,.one w)::pG t σ.tm,ct:=σ.ct+64}
  |i+1=>match v with| .ptr o _=>(match look o σ.ob with|some (_,.box T cs)=>{σ with ob:=(o,σ.ct+32,.box T (cs.set i w))::cZ [o] σ.ob,ct:=σ.ct+64}|_=>σ)|_=>σ)
 |some (bN,.agg vs)=>(match i with|0=>σ|i+1=>{σ with tm:=(t,bN,.agg (vs.set i w))::pG t σ.tm,ct:=σ.ct+64})
 |_=>σ
def ES(σ:AS S)(q:Nat)(a:AO S):AS S:={σ with ob:=(q,σ.ct+32,a)::σ.ob,ct:=σ.ct+64}
def O6(σ:AS S)(t i:Nat)(k:T8):Option (AS S):=match place σ t i,k with
 |some .dW,.own e c=>some (ES (qS {σ with ct:=σ.ct+64} t i (.rw (σ.ct+1) c [])) (σ.ct+1) (.row e c))
 |some .dW,.arr e c=>some (ES (qS {σ with ct:=σ.ct+64} t i (.aw (σ.ct+1))) (σ.ct+1) (.arr e c true []))
 |some (.aw o),.YS=>(look o σ.ob).bind fun a=>match a.2 with
  |.arr _ c _ l=>(match place {σ with ob:=cZ [o] σ.ob} t i with
   |some (.aw o')=>(match Nat.beq o' o with|true=>some (qS {σ with ob:=cZ [o] σ.ob} t i (.sl c l))|false=>none)
   |_=>none)
  |_=>none
 |some _,_=>some σ
 |none,_=>none
def F9:List (Nat×Nat×T8)->AS S->Option (AS S)
 |[],σ=>some σ
 |(t,i,k)::l,σ=>(O6 σ t i k).bind (F9 l)
def pack(J:JA)(σ0 σ:AS S):Option (HT S J.ls):=(F9 J.pre σ).bind fun σ=>
 match DZ σ.tm (o9 J σ0.tm)&&DX σ.ob (uC J σ0)&&Nat.beq σ.fb σ0.fb&&(J.fx.all fun r=>(look r.2 σ0.ob).isSome&&Nat.ble r.1 200)&&eY (J.fx.map (·.2))with
 |true=>(kY tb σ.tm J.fx J.MR).bind fun p=>(OS.takes tb σ.ob p.2 0 J.eZ).bind fun q=>
  match eY (wi q.2 0 J.eZ.length++(uC J σ0).map (·.1))with
  |true=>(kF J.pm (p.1++q.1)).bind (pI J.ls)
  |false=>none
 |false=>none
def HX(ids:Nat->Nat)(o v:Nat):List (AO S)->List (Nat×Nat×AO S)
 |[]=>[]
 |a::l=>(ids o,v,a)::HX ids (o+1) (v+1) l
def JA.ids(J:JA)(ct o:Nat):Nat:=match look o J.fx with|some q=>q|none=>ct+o
def FV(v:Nat):List (AO S)->List (Nat×Nat×AO S)
 |[]=>[]
 |a::l=>(v,v,a)::FV (v+1) l
def unpack(J:JA)(σ0:AS S)(z:HT S J.ls):Option (AS S):=
 (kF J.bk (nG J.ls z)).bind fun ds=>
 (rC tb (J.ids σ0.ct) (σ0.ct+64) J.MR ds).bind fun p=>
 (OS.dP tb (J.ids σ0.ct) J.eZ p.2).bind fun q=>
 some {σ0 with tm:=p.1++o9 J σ0.tm,ob:=HX (J.ids σ0.ct) 0 σ0.ct q.1++uC J σ0,ct:=σ0.ct+256}
inductive KS where
 |kept
 |now (s:OS)
 |gone
structure Out where
 out:PS
 e8:List KS:=[]
 sD:List Co
 YI:List Nat:=[]
 EH:List Nat:=[]
 Yg:F8 YI EH=true:=by rfl
 vm:Nat.ble e8.length 30=true:=by rfl
variable (S) in
def kH:List Out->Type
 |[]=>Empty
 |[o]=>HT S o.sD
 |o::p::os=>HT S o.sD⊕kH (p::os)
def Wa{γ:Type}(k:(o:Out)->HT S o.sD->Option γ):(os:List Out)->kH S os->Option γ
 |[],_=>none
 |[o],y=>k o y
 |o::p::os,y=>@Sum.elim (HT S o.sD) (kH S (p::os)) (Option γ) (k o) (Wa k (p::os)) y
def QV{γ:Type}(os:List Out)(y:kH S os)(k:(o:Out)->HT S o.sD->Option γ):Option γ:=Wa k os y
def yJ:(os:List Out)->kH S os->((o:Out)->HT S o.sD->Prop)->Prop
 |[],_,_=>False
 |[o],y,p=>p o y
 |o::_::_,Sum.inl z,q=>q o z
 |_::p::os,Sum.inr z,q=>yJ (p::os) z q
variable (S) in
structure gj where
 f:FuncId
 ins:List PS
 eZ:List OS:=[]
 ls:List Co
 pm:List Nat:=[]
 bk:List Nat:=[]
 outs:List Out
 TU:F8 pm bk=true:=by rfl
 vm:(Nat.ble eZ.length 30&&outs.all fun o=>Nat.ble eZ.length o.e8.length)=true:=by rfl
 D0:HT S ls->Option (kH S outs)
variable (S) in
structure NC where
 f:FuncId
 ins:List PS
 eZ:List OS:=[]
 ls:List Co
 pm:List Nat:=[]
 bk:List Nat:=[]
 out:Out
 TU:F8 pm bk=true:=by rfl
 vm:(Nat.ble eZ.length 30&&Nat.ble eZ.length out.e8.length)=true:=by rfl
 S3:(γ:Type)->(HT S out.sD->Option γ)->HT S ls->Option γ
variable (S) in
structure fD where
 v:AV S
 rd:List Nat:=[]
 rm:List Nat:=[]
 add:List (Nat×AO S):=[]
def val(v:CV S):fD S:={v:=.one v}
def OS.outs(ids:Nat->Nat):Nat->List KS->List (fC S)->Option (List (Nat×AO S))
 |_,[],[]=>some []
 |_,[],_::_=>none
 |o,.now s::l,ds=>(OS.fill tb ids s ds).bind fun p=>(OS.outs ids (o+1) l p.2).map fun q=>(ids o,p.1)::q
 |o,_::l,ds=>OS.outs ids (o+1) l ds
def mi(mp:List (Nat×Nat))(ct:Nat)(o:Nat):Nat:=match look o mp with|some q=>q|none=>ct+1+o
def KS.X6:KS->Bool
 |.kept=>true
 |_=>false
def dT(mp:List (Nat×Nat))(k:Bool):Nat->List KS->List Nat
 |_,[]=>[]
 |o,s::l=>match look o mp with
  |some q=>match s.X6 == k with|true=>q::dT mp k (o+1) l|false=>dT mp k (o+1) l
  |none=>dT mp k (o+1) l
variable (S) in
structure FA where
 Uc:List TypeId:=[]
 lits:List TypeId:=[]
 parts:List TypeId:=[]
 takes:List TypeId:=[]
 pre:List (Nat×Nat×T8):=[]
 fn:Nat:=0
 rd:Bool:=false
 nd:List (NC S):=[]
 deriving Inhabited
def Yt(r:Nat):Nat:=1000000+r
def Rc(b:Bool):Option Unit:=match b with|true=>some ()|false=>none
section
variable {γ:Type}(tt:TypeId->Option (TI S))(Φ:List (gj S))(fa:FA S)
def mj(f:FuncId)(args:List (AV S))(ob:List (Nat×Nat×AO S))(ct:Nat)(k:fD S->Option γ):List (gj S)->Option γ
 |[]=>none
 |c::cs=>match Nat.beq c.f f with
  |false=>mj f args ob ct k cs
  |true=>match(PS.takes tb [] c.ins args).bind fun p=>(OS.takes tb ob p.2 0 c.eZ).bind fun q=>(kF c.pm (p.1++q.1)).bind fun ds=>(pI c.ls ds).map fun x=>(x,q.2)with
   |none=>mj f args ob ct k cs
   |some (x,mp)=>(c.D0 x).bind fun y=>QV c.outs y fun o z=>
    match(Rc (mp.all fun p=>Nat.ble (p.1+1) c.eZ.length)).bind fun _=>(kF o.EH (nG o.sD z)).bind fun ds=>(PS.fill tb (mi mp ct) o.out ds).bind fun p=>(OS.outs tb (mi mp ct) 0 o.e8 p.2).map fun l=>(p.1,l)with
    |some (v,l)=>k {v:=v,rd:=dT mp true 0 o.e8,rm:=dT mp false 0 o.e8,add:=l}
    |none=>none
def jQ(f:FuncId)(args:List (AV S))(ob:List (Nat×Nat×AO S))(ct:Nat)(k:fD S->Option γ):List (NC S)->Option γ
 |[]=>none
 |c::cs=>match Nat.beq c.f f with
  |false=>jQ f args ob ct k cs
  |true=>match(PS.takes tb [] c.ins args).bind fun p=>(OS.takes tb ob p.2 0 c.eZ).bind fun q=>(kF c.pm (p.1++q.1)).bind fun ds=>(pI c.ls ds).map fun x=>(x,q.2)with
   |none=>jQ f args ob ct k cs
   |some (x,mp)=>(Rc ((mp.all fun p=>Nat.ble (p.1+1) c.eZ.length)&&eY (dT mp true 0 c.out.e8++dT mp false 0 c.out.e8))).bind fun _=>c.S3 γ (fun z=>
    match(kF c.out.EH (nG c.out.sD z)).bind fun ds=>(PS.fill tb (mi mp ct) c.out.out ds).bind fun p=>(OS.outs tb (mi mp ct) 0 c.out.e8 p.2).map fun l=>(p.1,l)with
    |some (v,l)=>k {v:=v,rd:=dT mp true 0 c.out.e8,rm:=dT mp false 0 c.out.e8,add:=l}
    |none=>none) x
def Xf(o:Oper)(xs:List (AV S)):Option (FuncId×List (AV S)):=match o.op with
 |.call c=>(match c.callee,xs with
  |.value _,.one (.fn (.func f) first caps)::args=>(match(fa.nd.any fun c=>Nat.beq c.f f)&&Nat.ble f 999999 with|true=>some (f,first.map vq++args++caps.map vq)|false=>none)
  |_,_=>none)
 |_=>none
def Sq(sq:Bool)(o:Oper)(xs:List (AV S)):Option (FuncId×List (AV S)):=match sq with
 |true=>Xf fa o xs
 |false=>none
def ft(t:TypeId):Option (TypeId×Co):=(tt t).bind fun i=>match i.d,i.co with| .slice e,.sl c=>some (e,c)|_,_=>none
def rH(i:TI S)(vs:Option (List (CV S)))(one:Option (CV S))(rd:List Nat)(k:fD S->Option γ):Option γ:=match ep i.d with
 |true=>vs.bind fun vs=>k {v:=.agg vs,rd:=rd}
 |false=>one.bind fun v=>k {v:=.one v,rd:=rd}
def Cg(t:TypeId)(v:CV S)(ob:List (Nat×Nat×AO S))(k:fD S->Option γ):Option γ:=
 (tt t).bind fun i=>match v with
 |.ptr o off=>(look o ob).bind fun a=>match a.2 with
  |.box _ cs=>rH i ((cutAt off cs).bind (nC i.size)) (qg off cs) [o] k
  |_=>none
 |.el c x off=>rH i ((cutAt off (MS tb c x)).bind (nC i.size)) (qg off (MS tb c x)) [] k
 |.GN o v c x _ off=>(look o ob).bind fun a=>match Nat.beq a.1 v with
  |true=>rH i ((cutAt off (MS tb c x)).bind (nC i.size)) (qg off (MS tb c x)) [o] k
  |false=>none
 |.NJ o off n j=>(look o ob).bind fun a=>match a.2,ep i.d with
  |.box _ cs,false=>(cutAt off cs).bind fun cs=>match cs with
   |.a8 n' f::_=>match Nat.beq n n' with|true=>k {v:=.one (.u8 (oM f j)),rd:=[o]}|false=>none
   |.ai n' kk f::_=>match Nat.beq n n' with|true=>k {v:=.one (.int kk (oM f j)),rd:=[o]}|false=>none
   |_=>none
  |_,_=>none
 |_=>none
def tq:Nat->CV S->List (CV S)->Option (List (CV S))
 |_,_,[]=>none
 |0,x,_::vs=>some (x::vs)
 |o+1,x,v::vs=>match Nat.ble v.n (o+1)with|true=>(tq (o+1-v.n) x vs).map (v:: ·)|false=>none
def Pb(o n:Nat)(xs vs:List (CV S)):Option (List (CV S)):=match Nat.beq (Iw xs) n with
 |true=>(match xs,Nat.beq n 1 with| [x],true=>O9 o x vs|xs,_=>VB o n xs vs)
 |false=>none
def wH(t:TypeId)(p:CV S)(a:AV S)(ob:List (Nat×Nat×AO S))(k:fD S->Option γ):Option γ:=
 (tt t).bind fun i=>(ml a).bind fun xs=>
 match p with
 |.ptr o off=>(look o ob).bind fun b=>match b.2 with
  |.box T cs=>(Pb off i.size xs cs).bind fun cs'=>k {v:=AV.fg S,rm:=[o],add:=[(o,.box T cs')]}
  |_=>none
 |.GN o v c x j off=>(look o ob).bind fun b=>match Nat.beq b.1 v with
  |true=>match b.2 with
   |.arr e c' full l=>(Pb off i.size xs (MS tb c x)).bind fun cs'=>(ym tb c' cs').bind fun u=>
    k {v:=AV.fg S,rm:=[o],add:=[(o,.arr e c' full (l.set j.toNat u))]}
   |_=>none
  |false=>none
 |.NJ o off n j=>(look o ob).bind fun b=>match b.2,Nat.beq i.size 1 with
  |.box T cs,true=>(cutAt off cs).bind fun cs1=>(match cs1,xs with
   |.a8 n' f::_,[.u8 y]=>(match Nat.beq n n' with|true=>tq off (.a8 n' (qR f j y)) cs|false=>none)
   |.ai n' kk f::_,[.int k' y]=>(match Nat.beq n n',decEq k' kk with|true,isTrue _=>tq off (.ai n' kk (qR f j y)) cs|_,_=>none)
   |_,_=>none).bind fun cs'=>k {v:=AV.fg S,rm:=[o],add:=[(o,.box T cs')]}
  |_,_=>none
 |_=>none
def idxOf(v:AV S):Option Int:=match v with| .one v=>(num v).map (·.2)|_=>none
def vQ(t:TypeId)(y:Operand)(v:CV S)(i:Int)(ob:List (Nat×Nat×AO S))(k:fD S->Option γ):Option γ:=
 match v with
 |.ptr o off=>(tt t).bind fun ti=>match ti.d with
  |.array n e=>(tt e).bind fun ei=>match Nat.beq ei.size 1 with
   |true=>(match y with
    |.const (.int _ j)=>(match decide (0<=j)&&decide (j<n)with|true=>k (val (.ptr o (off+j.toNat)))|false=>none)
    |_=>(l9 (0<=i/\i<n)).bind fun _=>k (val (.NJ o off n i)))
   |false=>none
  |_=>none
 |v=>(ft tt t).bind fun ec=>match v with
  |.aw o=>(look o ob).bind fun a=>match a.2 with
   |.arr _ c' _ l=>(match decEq c' ec.2 with
    |isTrue _=>(idx l i).bind fun x=>k {v:=.one (.GN o a.1 c' x i 0),rd:=[o]}
    |isFalse _=>none)
   |_=>none
  |v=>(S7 ec.2 v).bind fun l=>(idx l i).bind fun x=>k (val (.el ec.2 x 0))
def py:Option Operand->List (AV S)->Option (Option Int×List (AV S))
 |none,vs=>some (none,vs)
 |some _,v::vs=>(idxOf v).map fun i=>(some i,vs)
 |some _,[]=>none
def U3:CV S->Bool
 |.dW=>true
 |_=>false
def U6:Option Int->Option Int->Option Int->Bool
 |none,some _,none=>true
 |_,_,_=>false
def Wp(c:Co)(v:CV S)(l:List (T S c)):CV S:=match v with
 |.rw o d _=>(match decEq d c with|isTrue _=>.rw o c l|isFalse _=>.sl c l)
 |_=>.sl c l
def tB(t:TypeId)(v:CV S)(lo hi mx:Option Int)(ob:List (Nat×Nat×AO S))(ct:Nat)(k:fD S->Option γ):Option γ:=
 (ft tt t).bind fun ec=>match v with
 |.aw o=>(look o ob).bind fun a=>match a.2,lo,hi,mx with
  |.arr e c _ l,some i,none,none=>(match decEq c ec.2 with
   |isTrue _=>(jY l i).bind fun l'=>k {v:=.one (.aw (ct+1)),rm:=[o],add:=[(ct+1,.arr e c false l')]}
   |isFalse _=>none)
  |.arr e c full l,none,some j,none=>(match decEq c ec.2 with
   |isTrue _=>(pK l j).bind fun l'=>k {v:=.one (.aw (ct+1)),rm:=[o],add:=[(ct+1,.arr e c full l')]}
   |isFalse _=>none)
  |_,_,_,_=>none
 |.rz o c _=>(match lo,hi,mx with
  |none,some j,none=>(match decide (j=0)with|true=>k {v:=.one (.rw o c []),rd:=[o]}|false=>none)
  |_,_,_=>none)
 |v=>match U3 v&&U6 lo hi mx with
  |true=>(match decide (hi=some 0)with|true=>k (val .dW)|false=>none)
  |false=>(S7 ec.2 v).bind fun l=>match lo,hi,mx with
  |some i,none,none=>(jY l i).bind fun l'=>k (val (Wp ec.2 v l'))
  |none,some j,none=>(pK l j).bind fun l'=>k (val (.sl ec.2 l'))
  |some i,some j,none=>(tz l i j).bind fun l'=>k (val (.sl ec.2 l'))
  |none,some j,some m=>(l9 (m=j)).bind fun _=>(pK l j).bind fun l'=>k (val (.S6 ec.2 l'))
  |_,_,_=>none
def rk(t:TypeId)(v w:CV S)(ob:List (Nat×Nat×AO S))(ct:Nat)(k:fD S->Option γ):Option γ:=
 (ft tt t).bind fun ec=>(tt ec.1).bind fun ei=>(S7 ec.2 w).bind fun l'=>match v with
  |.dW=>(app ei.bytes [] l').bind fun l2=>match has t fa.Uc with
   |true=>k {v:=.one (.aw (ct+1)),add:=[(ct+1,.arr ec.1 ec.2 true l2)]}
   |false=>k {v:=.one (.rw (ct+1) ec.2 l2),add:=[(ct+1,.row ec.1 ec.2)]}
  |.rw o d l=>(look o ob).bind fun a=>match a.2,decEq d ec.2 with
   |.row e' d',isTrue h=>(match Nat.beq e' ec.1,decEq d' ec.2 with
    |true,isTrue _=>(app ei.bytes (kC h l) l').bind fun l2=>k {v:=.one (.rw (ct+1) ec.2 l2),rm:=[o],add:=[(ct+1,.row ec.1 ec.2)]}
    |_,_=>none)
   |_,_=>none
  |.aw o=>(look o ob).bind fun a=>match a.2 with
   |.arr e' d true l=>(match Nat.beq e' ec.1,decEq d ec.2 with
    |true,isTrue h=>(app ei.bytes (kC h l) l').bind fun l2=>k {v:=.one (.aw (ct+1)),rm:=[o],add:=[(ct+1,.arr ec.1 ec.2 true l2)]}
    |_,_=>none)
   |_=>none
  |.S6 d l=>(match decEq d ec.2 with
   |isTrue h=>(app ei.bytes (kC h l) l').bind fun l2=>k (val (.sl ec.2 l2))
   |isFalse _=>none)
  |_=>none
def Ct(t:TypeId)(v:CV S)(lo hi mx:Option Int)(ob:List (Nat×Nat×AO S))(ct:Nat)(k:fD S->Option γ):Option γ:=match v with
 |.aw o=>(ft tt t).bind fun ec=>(look o ob).bind fun a=>match a.2,lo,hi,mx with
  |.arr _ c _ l,some i,none,none=>(match decEq c ec.2 with
   |isTrue _=>(l9 (0<=i/\i<=(l.length:Int))).bind fun _=>k {v:=.one (.pt o ec.2 i ((l.length:Int)-i)),rd:=[o]}
   |isFalse _=>none)
  |.arr _ c _ l,some i,some j,none=>(match decEq c ec.2 with
   |isTrue _=>(l9 (0<=i/\i<=j/\j<=(l.length:Int))).bind fun _=>k {v:=.one (.pt o ec.2 i (j-i)),rd:=[o]}
   |isFalse _=>none)
  |_,_,_,_=>none
 |v=>tB tt t v lo hi mx ob ct k
def VI(o:Nat)(s:CV S)(l:List UInt8):Option (List UInt8):=match s with
 |.pt o' c off n=>(match Nat.beq o' o,decEq c .u8 with
  |true,isTrue _=>some ((l.drop off.toNat).take n.toNat)
  |_,_=>none)
 |s=>S7 .u8 s
def rT(t:TypeId)(o off:Nat)(lo hi mx:Option Int)(k:fD S->Option γ):Option γ:=
 (tt t).bind fun ti=>match ti.d,mx with
  |.array n e,none=>(tt e).bind fun ei=>(match Nat.beq ei.size 1 with
   |true=>(l9 (0<=lo.getD 0/\lo.getD 0<n/\lo.getD 0<=hi.getD n/\hi.getD n<=n)).bind fun _=>k (val (.px o off n (lo.getD 0) (hi.getD n)))
   |false=>none)
  |_,_=>none
def CU(ec:TypeId×Co)(o off n:Nat)(i j:Int)(s:CV S)(ob:List (Nat×Nat×AO S))(k:fD S->Option γ):Option γ:=match s,ec.2 with
 |.px o' off' n' i' j',.int _=>(match Nat.beq o' o&&(Nat.beq off' off&&Nat.beq n' n)with
  |true=>(look o ob).bind fun a=>(match a.2 with
   |.box T cs=>(cutAt off cs).bind fun cs1=>(match cs1 with
    |.ai n1 kk f::_=>(match Nat.beq n1 n with
     |true=>(tq off (.ai n kk (FT f i.toNat i'.toNat (j9 (j-i) (j'-i')).toNat)) cs).bind fun cs'=>k {v:=.one (.int .i64 (j9 (j-i) (j'-i'))),rm:=[o],add:=[(o,.box T cs')]}
     |false=>none)
    |_=>none)
   |_=>none)
  |false=>none)
 |s,.u8=>(S7 .u8 s).bind fun l=>(look o ob).bind fun a=>(match a.2 with
  |.box T cs=>(cutAt off cs).bind fun cs1=>(match cs1 with
   |.a8 n1 f::_=>(match Nat.beq n1 n with
    |true=>(tq off (.a8 n (TA f i.toNat (j9 (List.length (α:=UInt8) l:Int) (j-i)).toNat l)) cs).bind fun cs'=>k {v:=.one (.int .i64 (j9 (List.length (α:=UInt8) l:Int) (j-i))),rm:=[o],add:=[(o,.box T cs')]}
    |false=>none)
   |_=>none)
  |_=>none)
 |_,_=>none
def rS(t:TypeId)(o off:Nat)(lo hi mx:Option Int)(ob:List (Nat×Nat×AO S))(k:fD S->Option γ):Option γ:=
 (tt t).bind fun ti=>match ti.d,lo,hi,mx,off with
  |.array n e,none,none,none,0=>(tt e).bind fun ei=>(look o ob).bind fun a=>(match a.2 with
   |.box _ [.a8 n1 f]=>(match Nat.beq n1 n&&(Nat.beq ei.size 1&&(Nat.ble 1 n&&Nat.ble n 4096))with
    |true=>k {v:=.one (.sl .u8 (gl (α:=UInt8) n f)),rm:=[o]}
    |false=>none)
   |_=>none)
  |_,_,_,_,_=>none
def BX(t:TypeId)(d s:CV S)(ob:List (Nat×Nat×AO S))(k:fD S->Option γ):Option γ:=
 (ft tt t).bind fun ec=>match d with
  |.pt o c off n=>(look o ob).bind fun a=>match a.2 with
   |.arr e c' full l=>(match decEq c' .u8,decEq c .u8,decEq ec.2 .u8 with
    |isTrue h,isTrue _,isTrue _=>(VI o s (kC h l)).bind fun x=>k {v:=.one (.int .i64 (j9 (x.length:Int) n)),rm:=[o],add:=[(o,.arr e .u8 full (QM (α:=UInt8) (kC h l) off.toNat (x.take n.toNat)))]}
    |_,_,_=>none)
   |_=>none
  |.px o off n i j=>CU ec o off n i j s ob k
  |_=>none
def Yi(o off n:Nat)(i j:Int)(ob:List (Nat×Nat×AO S)):Option (List UInt8):=(look o ob).bind fun a=>match a.2 with
 |.box _ cs=>(cutAt off cs).bind fun cs1=>(match cs1 with
  |.a8 n1 f::_=>(match Nat.beq n1 n with|true=>some (((gl n f).drop i.toNat).take (j-i).toNat)|false=>none)
  |_=>none)
 |_=>none
def nt(t:TypeId)(q:Nat)(d:Co)(l:List (T S d))(o off n:Nat)(i j:Int)(ob:List (Nat×Nat×AO S))(ct:Nat)(k:fD S->Option γ):Option γ:=
 (ft tt t).bind fun ec=>(tt ec.1).bind fun ei=>(look q ob).bind fun a=>match a.2,decEq d .u8,decEq ec.2 .u8 with
  |.row e' d',isTrue h,isTrue _=>(match Nat.beq e' ec.1&&Nat.ble n 4096,decEq d' .u8 with
   |true,isTrue _=>(Yi o off n i j ob).bind fun l'=>(app (α:=UInt8) ei.bytes (kC h l) l').bind fun l2=>k {v:=.one (.rw (ct+1) .u8 l2),rd:=[o],rm:=[q],add:=[(ct+1,.row ec.1 .u8)]}
   |_,_=>none)
  |_,_,_=>none
def vz(t:TypeId)(v:CV S)(ob:List (Nat×Nat×AO S))(k:fD S->Option γ):Option γ:=
 (ft tt t).bind fun ec=>(tt ec.1).bind fun ei=>(ym tb ec.2 ei.zero).bind fun z=>match v with
  |.pt o c off n=>(look o ob).bind fun a=>match a.2 with
   |.arr e c' full l=>(match decEq c' ec.2,decEq c ec.2 with
    |isTrue h,isTrue _=>k {v:=.dv [],rm:=[o],add:=[(o,.arr e ec.2 full (Bp (kC h l) off.toNat n.toNat z))]}
    |_,_=>none)
   |_=>none
  |_=>none
def Ag:Co->Bool
 |.int _=>true
 |.u8=>true
 |.bo=>true
 |_=>false
def nu(t tx:TypeId)(v w:CV S)(ob:List (Nat×Nat×AO S))(ct:Nat)(k:fD S->Option γ):Option γ:=
 (ft tt t).bind fun ec=>(tt ec.1).bind fun ei=>(tt tx).bind fun xi=>match xi.d,v,w with
  |.int .i64,.dW,.int .i64 n=>(l9 (0<n/\n*ei.bytes<=140737488355328)).bind fun _=>k {v:=.one (.rz (ct+1) ec.2 n),add:=[(ct+1,.row ec.1 ec.2)]}
  |.int .i64,.rw o d l,.int .i64 n=>(match Ag ec.2,ep ei.d,decEq d ec.2 with
   |true,false,isTrue h=>(look o ob).bind fun a=>(match a.2 with
    |.row e' d'=>(match Nat.beq e' ec.1,decEq d' ec.2 with
     |true,isTrue _=>(ym tb ec.2 ei.zero).bind fun z=>(l9 (0<=n/\n*ei.bytes<=140737488355328)).bind fun _=>(app ei.bytes (kC h l) (List.replicate n.toNat z)).bind fun l2=>k {v:=.one (.rw (ct+1) ec.2 l2),rm:=[o],add:=[(ct+1,.row ec.1 ec.2)]}
     |_,_=>none)
    |_=>none)
   |_,_,_=>none)
  |_,_,_=>none
def L7(t:TypeId)(v:CV S)(ob:List (Nat×Nat×AO S))(k:fD S->Option γ):Option γ:=
 (tt t).bind fun ti=>match ti.d with
 |.slice _=>(match v with
  |.sl _ l=>k (val (.int .i64 (l.length:Int)))
  |.S6 _ l=>k (val (.int .i64 (l.length:Int)))
  |.rw _ _ l=>k (val (.int .i64 (l.length:Int)))
  |.dW=>k (val (.int .i64 0))
  |.aw o=>(look o ob).bind fun a=>match a.2 with
   |.arr _ _ _ l=>k {v:=.one (.int .i64 (l.length:Int)),rd:=[o]}
   |_=>none
  |_=>none)
 |.str=>(match v with| .str l=>k (val (.int .i64 (l.length:Int)))|_=>none)
 |.map _ _=>(match v with
  |.mp o=>(look o ob).bind fun a=>match a.2 with
   |.map _ _ _ l _=>k {v:=.one (.int .i64 (l.length:Int)),rd:=[o]}
   |_=>none
  |_=>none)
 |_=>none
def BU(s d:TypeId)(v:CV S)(ob:List (Nat×Nat×AO S))(k:fD S->Option γ):Option γ:=
 (tt s).bind fun a=>(tt d).bind fun b=>match v,b.d with
 |.int _ x,.int kd=>k (val (Tn kd x))
 |.u8 x,.int .u8=>k (val (.u8 x))
 |.u8 x,.int .i8=>k (val (.int .i8 (IntKind.i8.wrap (x.toNat:Int))))
 |.u8 x,.int kd=>k (val (.int kd (x.toNat:Int)))
 |.str l,.str=>match a.d with| .str=>k (val (.str l))|_=>none
 |v,.str=>match a.d,a.co with
  |.slice e,.sl .u8=>(tt e).bind fun ei=>match ei.d with| .int .u8=>(S7 (S:=S) .u8 v).bind fun l=>k (val (.str l))|_=>none
  |_,_=>none
 |.rw o c (y::l),.slice e=>match Nat.beq s d with
  |true=>(tt e).bind fun ei=>(look o ob).bind fun b=>match ei.d,b.2 with| .int .u8,.row _ _=>k {v:=.one (.sl c (y::l)),rm:=[o]}|_,_=>none
  |false=>none
 |_,_=>none
def kD:Co->AV S->Option (List (CV S))
 |.st _,.agg vs=>some vs
 |.st _,_=>none
 |_,.one v=>some [v]
 |_,_=>none
def gR(t:TypeId):Option (Co×Co×TI S):=(tt t).bind fun ti=>match ti.d,ti.co with
 |.map _ e,.mp kc vc=>(tt e).bind fun ei=>(match zM tb kc&&(KF vc&&!ep ei.d)with|true=>some (kc,vc,ei)|false=>none)
 |_,_=>none
def Dx(vc:Co)(y:Option (T S vc))(z:T S vc)(ok:Bool):AV S:=match ok with
 |true=>.dv [.one (toCV vc (y.getD z)),.one (Q5 y.isSome)]
 |false=>.one (toCV vc (y.getD z))
def Ch(t:TypeId)(v:CV S)(key:AV S)(ok:Bool)(ob:List (Nat×Nat×AO S))(k:fD S->Option γ):Option γ:=
 (gR tb tt t).bind fun i=>(kD i.1 key).bind fun cs=>(ym tb i.1 cs).bind fun x=>(ym tb i.2.1 i.2.2.zero).bind fun z=>match v with
 |.mp o=>(look o ob).bind fun a=>match a.2 with
  |.map t' kc vc l none=>(match Nat.beq t' t,decEq kc i.1,decEq vc i.2.1 with
   |true,isTrue h,isTrue h'=>k {v:=Dx i.2.1 (fh (gv tb i.1) (fS h h' l) x) z ok,rd:=[o]}
   |_,_,_=>none)
  |.jv t' kc vc l none _=>(match Nat.beq t' t,decEq kc i.1,decEq vc i.2.1 with
   |true,isTrue h,isTrue h'=>k {v:=Dx i.2.1 (fh (gv tb i.1) (fS h h' l) x) z ok,rd:=[o]}
   |_,_,_=>none)
  |_=>none
 |_=>none
def jT(t:TypeId)(v:CV S)(key w:AV S)(ob:List (Nat×Nat×AO S))(k:fD S->Option γ):Option γ:=
 (gR tb tt t).bind fun i=>(kD i.1 key).bind fun cs=>(ym tb i.1 cs).bind fun x=>(kD i.2.1 w).bind fun ws=>(ym tb i.2.1 ws).bind fun y=>match v with
 |.mp o=>(look o ob).bind fun a=>match a.2 with
  |.map t' kc vc l none=>(match Nat.beq t' t,decEq kc i.1,decEq vc i.2.1 with
   |true,isTrue h,isTrue h'=>k {v:=AV.fg S,rm:=[o],add:=[(o,.map t i.1 i.2.1 (ka (gv tb i.1) (fS h h' l) x y) none)]}
   |_,_,_=>none)
  |.jv t' kc vc l none q=>(match Nat.beq t' t,decEq kc i.1,decEq vc i.2.1 with
   |true,isTrue h,isTrue h'=>(l9 ((fh (gv tb i.1) (fS h h' l) x).isSome=true)).bind fun _=>k {v:=AV.fg S,rm:=[o],add:=[(o,.jv t i.1 i.2.1 (ka (gv tb i.1) (fS h h' l) x y) none q)]}
   |_,_,_=>none)
  |_=>none
 |_=>none
def LI(t:TypeId)(v:CV S)(key:AV S)(ob:List (Nat×Nat×AO S))(k:fD S->Option γ):Option γ:=
 (gR tb tt t).bind fun i=>(kD i.1 key).bind fun cs=>(ym tb i.1 cs).bind fun x=>match v with
 |.mp o=>(look o ob).bind fun a=>match a.2 with
  |.map t' kc vc l none=>(match Nat.beq t' t,decEq kc i.1,decEq vc i.2.1 with
   |true,isTrue h,isTrue h'=>k {v:=.dv [],rm:=[o],add:=[(o,.map t i.1 i.2.1 (Vh (gv tb i.1) (fS h h' l) x) none)]}
   |_,_,_=>none)
  |_=>none
 |_=>none
def wZ{a c:Co}(h:a=c)(x:T S a):T S c:=h▸x
def Ck(t:TypeId)(v:CV S)(key:AV S)(ob:List (Nat×Nat×AO S))(ct:Nat)(k:fD S->Option γ):Option γ:=
 (gR tb tt t).bind fun i=>(kD i.1 key).bind fun cs=>(ym tb i.1 cs).bind fun x=>(ym tb i.2.1 i.2.2.zero).bind fun z=>match v with
 |.mp o=>(look o ob).bind fun a=>match a.2 with
  |.map t' kc vc l none=>(match Nat.beq t' t,decEq kc i.1,decEq vc i.2.1 with
   |true,isTrue h,isTrue h'=>k {v:=.dv [.one (toCV i.2.1 ((fh (gv tb i.1) (fS h h' l) x).getD z)),.one (.Td o (ct+1))],rm:=[o],add:=[(o,.map t i.1 i.2.1 (HQ (gv tb i.1) (fS h h' l) x z) (some (x,ct+1)))]}
   |_,_,_=>none)
  |.jv t' kc vc l none q=>(match Nat.beq t' t,decEq kc i.1,decEq vc i.2.1 with
   |true,isTrue h,isTrue h'=>(l9 ((fh (gv tb i.1) (fS h h' l) x).isSome=true)).bind fun _=>k {v:=.dv [.one (toCV i.2.1 ((fh (gv tb i.1) (fS h h' l) x).getD z)),.one (.Td o (ct+1))],rm:=[o],add:=[(o,.jv t i.1 i.2.1 (fS h h' l) (some (x,ct+1)) q)]}
   |_,_,_=>none)
  |_=>none
 |_=>none
def LP(t:TypeId)(v s:CV S)(w:AV S)(ob:List (Nat×Nat×AO S))(k:fD S->Option γ):Option γ:=
 (gR tb tt t).bind fun i=>(kD i.2.1 w).bind fun ws=>(ym tb i.2.1 ws).bind fun y=>match v,s with
 |.mp o,.Td o' q=>(match Nat.beq o o' with
  |true=>(look o ob).bind fun a=>match a.2 with
   |.map t' kc vc l (some (x,q'))=>(match Nat.beq t' t&&Nat.beq q q',decEq kc i.1,decEq vc i.2.1 with
    |true,isTrue h,isTrue h'=>k {v:=AV.fg S,rm:=[o],add:=[(o,.map t i.1 i.2.1 (ka (gv tb i.1) (fS h h' l) (wZ h x) y) none)]}
    |_,_,_=>none)
   |.jv t' kc vc l (some (x,q')) q0=>(match Nat.beq t' t&&Nat.beq q q',decEq kc i.1,decEq vc i.2.1 with
    |true,isTrue h,isTrue h'=>k {v:=AV.fg S,rm:=[o],add:=[(o,.jv t i.1 i.2.1 (ka (gv tb i.1) (fS h h' l) (wZ h x) y) none q0)]}
    |_,_,_=>none)
   |_=>none
  |false=>none)
 |_,_=>none
def wm(t:TypeId)(v:CV S)(ob:List (Nat×Nat×AO S))(ct:Nat)(k:fD S->Option γ):Option γ:=
 (gR tb tt t).bind fun i=>match v with
 |.mp o=>(look o ob).bind fun a=>match a.2 with
  |.map t' kc vc l none=>(match Nat.beq t' t,decEq kc i.1,decEq vc i.2.1 with
   |true,isTrue h,isTrue h'=>k {v:=.one (.R9 (ct+1)),rm:=[o],add:=[(o,.jv t i.1 i.2.1 (fS h h' l) none (ct+1)),(ct+1,.pO i.1 o none)]}
   |_,_,_=>none)
  |_=>none
 |_=>none
def JY:(c:Co)->T S c->AV S
 |.st i,x=>.agg (MS tb (.st i) x)
 |c,x=>.one (toCV c x)
def vF(v:CV S)(ob:List (Nat×Nat×AO S))(k:fD S->Option γ):Option γ:=match v with
 |.R9 q=>(look q ob).bind fun b=>match b.2 with
  |.pO kc' o (some (some x))=>(look o ob).bind fun a=>match a.2 with
   |.jv t kc vc l none q'=>(gR tb tt t).bind fun i=>(ym tb i.2.1 i.2.2.zero).bind fun z=>(match Nat.beq q' q,decEq kc' i.1,decEq kc i.1,decEq vc i.2.1 with
    |true,isTrue h0,isTrue h,isTrue h'=>k {v:=.dv [JY tb i.1 (wZ h0 x),.one (toCV i.2.1 ((fh (gv tb i.1) (fS h h' l) (wZ h0 x)).getD z))],rd:=[q,o]}
    |_,_,_,_=>none)
   |_=>none
  |_=>none
 |_=>none
def Vk:List (CV S)->Bool
 |[.dW]=>true
 |_=>false
def oT(t:TypeId):Option (Co×Co×TypeId):=(tt t).bind fun ti=>match ti.d,ti.co with
 |.map _ e,.mp kc (.sl c)=>(tt e).bind fun si=>(ft tt e).bind fun ec=>(match zM tb kc&&Vk si.zero,decEq ec.2 c with|true,isTrue _=>some (kc,c,ec.1)|_,_=>none)
 |_,_=>none
def vM(t:TypeId)(v:CV S)(key:AV S)(ok:Bool)(ob:List (Nat×Nat×AO S))(k:fD S->Option γ):Option γ:=
 (oT tb tt t).bind fun i=>(kD i.1 key).bind fun cs=>(ym tb i.1 cs).bind fun x=>match v,ok with
 |.mp o,false=>(look o ob).bind fun a=>match a.2 with
  |.nI t' _ kc c l none=>(match Nat.beq t' t,decEq kc i.1,decEq c i.2.1 with
   |true,isTrue h,isTrue h'=>k {v:=.one (.sl i.2.1 ((fh (gv tb i.1) (wY h h' l) x).getD [])),rd:=[o]}
   |_,_,_=>none)
  |_=>none
 |_,_=>none
def vP(t:TypeId)(v:CV S)(key:AV S)(ok:Bool)(ob:List (Nat×Nat×AO S))(ct:Nat)(k:fD S->Option γ):Option γ:=
 (oT tb tt t).bind fun i=>(kD i.1 key).bind fun cs=>(ym tb i.1 cs).bind fun x=>match v,ok with
 |.mp o,false=>(look o ob).bind fun a=>match a.2 with
  |.nI t' et kc c l none=>(match Nat.beq t' t&&Nat.beq et i.2.2,decEq kc i.1,decEq c i.2.1 with
   |true,isTrue h,isTrue h'=>k {v:=.one (.rw (ct+1) i.2.1 ((fh (gv tb i.1) (wY h h' l) x).getD [])),rm:=[o],add:=[(o,.nI t i.2.2 i.1 i.2.1 (wY h h' l) (some x)),(ct+1,.row i.2.2 i.2.1)]}
   |_,_,_=>none)
  |_=>none
 |_,_=>none
def JQ{α:Type}(eq:α->α->Bool)(x:α)(h:Option α)(k:Option γ):Option γ:=match h with
 |none=>k
 |some y=>(l9 (eq x y=true)).bind fun _=>k
def Tx{a c:Co}(h:a=c)(x:Option (T S a)):Option (T S c):=h▸x
def Ca(t:TypeId)(v:CV S)(key:AV S)(w:CV S)(ob:List (Nat×Nat×AO S))(k:fD S->Option γ):Option γ:=
 (oT tb tt t).bind fun i=>(kD i.1 key).bind fun cs=>(ym tb i.1 cs).bind fun x=>match v,w with
 |.mp o,.rw p d l2=>(look o ob).bind fun a=>(look p ob).bind fun b=>match a.2,b.2 with
  |.nI t' et kc c l hole,.row et' c'=>(match Nat.beq t' t&&(Nat.beq et i.2.2&&Nat.beq et' i.2.2),decEq kc i.1,decEq c i.2.1,decEq c' i.2.1,decEq d i.2.1 with
   |true,isTrue h,isTrue h',isTrue _,isTrue hd=>JQ (gv tb i.1) x (Tx h hole) (k {v:=AV.fg S,rm:=[o,p],add:=[(o,.nI t i.2.2 i.1 i.2.1 (ka (gv tb i.1) (wY h h' l) x (kC hd l2)) none)]})
   |_,_,_,_,_=>none)
  |_,_=>none
 |_,_=>none
def OL:List (CV S)->Bool
 |[.ez]=>true
 |_=>false
def vV(t:TypeId):Option Co:=(tt t).bind fun ti=>match ti.d,ti.co with
 |.map _ e,.mp kc (.a8 _)=>(tt e).bind fun fi=>(match zM tb kc&&(OL fi.zero&&!ep fi.d)with|true=>some kc|false=>none)
 |_,_=>none
def E3{a c:Co}(h:a=c)(l:List (T S a×CV S)):List (T S c×CV S):=h▸l
def U2:CV S->Bool
 |.fn _ _ _=>true
 |_=>false
def zO(t:TypeId)(v:CV S)(key:AV S)(w:AV S)(ob:List (Nat×Nat×AO S))(k:fD S->Option γ):Option γ:=
 (vV tb tt t).bind fun i=>(kD i key).bind fun cs=>(ym tb i cs).bind fun x=>match v,w with
 |.mp o,.one f=>(look o ob).bind fun a=>match a.2 with
  |.BD t' kc l=>(match Nat.beq t' t&&U2 f,decEq kc i with
   |true,isTrue h=>(match(E3 h l).any fun p=>gv tb i x p.1 with
    |true=>none
    |false=>k {v:=AV.fg S,rm:=[o],add:=[(o,.BD t i (E3 h l++[(x,f)]))]})
   |_,_=>none)
  |_=>none
 |_,_=>none
def zN(o:Nat)(c:Co)(x:T S c)(k:fD S->Option γ):List (T S c×CV S)->Option γ
 |[]=>k {v:=.one .ez,rd:=[o]}
 |p::l=>@ite _ (gv tb c x p.1=true) inferInstance (k {v:=.one p.2,rd:=[o]}) (zN o c x k l)
def vU(t:TypeId)(v:CV S)(key:AV S)(ok:Bool)(ob:List (Nat×Nat×AO S))(k:fD S->Option γ):Option γ:=
 (vV tb tt t).bind fun i=>(kD i key).bind fun cs=>(ym tb i cs).bind fun x=>match v,ok with
 |.mp o,false=>(look o ob).bind fun a=>match a.2 with
  |.BD t' kc l=>(match Nat.beq t' t,decEq kc i with
   |true,isTrue h=>zN tb o i x k (E3 h l)
   |_,_=>none)
  |_=>none
 |_,_=>none
def qE:List (AV S)->Option (List (CV S))
 |[]=>some []
 |.one v::l=>(qE l).map (v:: ·)
 |.agg vs::l=>(qE l).map (.ag vs:: ·)
 |_::_=>none
def gX(place:Nat->Option (Nat×Nat)):List (CV S)->List (Nat×AV S)->Option (List (CV S))
 |cs,[]=>some cs
 |cs,(i,a)::l=>(place i).bind fun p=>(ml a).bind fun xs=>(Pb p.1 p.2 xs cs).bind fun cs'=>gX place cs' l
def L8(c:Co):List (Nat×AV S)->Option (List (T S c))
 |[]=>some []
 |(_,a)::l=>(ml a).bind fun xs=>(ym tb c xs).bind fun x=>(L8 c l).map (x:: ·)
def zD:Nat->List (Nat×AV S)->Bool
 |_,[]=>true
 |i,(j,_)::l=>Nat.beq i j&&zD (i+1) l
def sX(f:TypeId×Nat×Nat)(v:CV S)(k:fD S->Option γ):Option γ:=match Nat.ble 1 f.2.2,v with
 |true,.ptr o off=>k (val (.ptr o (off+f.2.1)))
 |true,.el c x off=>k (val (.el c x (off+f.2.1)))
 |true,.GN o v c x j off=>k (val (.GN o v c x j (off+f.2.1)))
 |_,_=>none
def VS(op:UnOp)(v:CV S)(k:fD S->Option γ):Option γ:=match op,v with
 |.not,.tt b=>k (val (.tt !b))
 |.not,.bo b _ _ _=>k (val (Q7 b))
 |.not,.na e n=>k (val (.na e (!n)))
 |.neg,.int kk x=>k (val (.int kk (kk.wrap (-x))))
 |.xor,.int kk x=>k (val (.int kk (Lw kk (if kk.signed then -1 else kk.max) x)))
 |_,_=>none
def DY:Operand->Operand->Bool
 |.tmp a,.tmp b=>Nat.beq a b
 |.const (.int k n),.const (.int k' n')=>decide (k=k')&&decide (n=n')
 |_,_=>false
def core(o:Oper)(xs:List (AV S))(ob:List (Nat×Nat×AO S))(ct:Nat)(k:fD S->Option γ):Option γ:=
 match o.op with
 |.move _=>match xs with| [a]=>k {v:=a}|_=>none
 |.assign _=>match xs with| [a]=>k {v:=a}|_=>none
 |.pick _ _ _=>match xs with| [.one c,a,b]=>U0 c (fun z=>match z with|true=>k {v:=a}|false=>k {v:=b})|_=>none
 |.extract _ i=>match xs with| [.dv vs]=>(vs[i]?).bind fun a=>k {v:=a}|_=>none
 |.nilCheck _=>match xs with| [.one v]=>(match v with| .ptr _ _=>k (val v)| .fn (.func _) _ _=>k (val v)| .el _ _ _=>k (val v)| .GN _ _ _ _ _ _=>k (val v)|_=>none)|_=>none
 |.binOp op t _ y _=>match xs with| [a,b]=>Lu tt op t y a b fun v=>k (val v)|_=>none
 |.unOp op _ _=>match xs with
  |[.one v]=>VS op v k
  |_=>none
 |.convert s d _=>match xs with| [.one v]=>BU tt s d v ob k|_=>none
 |.fieldAddr t _ i=>match xs with
  |[.one v]=>(tt t).bind fun ti=>match ti.d with
   |.struct fs=>(fs[i]?).bind fun(f:TypeId×Nat×Nat)=>sX f v k
   |_=>none
  |_=>none
 |.field t _ i=>match xs with
  |[.agg vs]=>(tt t).bind fun ti=>match ti.d with
   |.struct fs=>(fs[i]?).bind fun(f:TypeId×Nat×Nat)=>(tt f.1).bind fun fi=>(match ep fi.d with
    |true=>((cutAt f.2.1 vs).bind (nC fi.size)).bind fun l=>k {v:=.agg l}
    |false=>(qg f.2.1 vs).bind fun v=>k (val v))
   |_=>none
  |_=>none
 |.build t parts=>(tt t).bind fun ti=>(match ti.d with
  |.struct fs=>gX (fun i=>(fs[i]?).map fun(f:TypeId×Nat×Nat)=>f.2) ti.zero ((parts.toList.map Prod.fst).zip xs)
  |.array _ e=>(tt e).bind fun ei=>gX (fun i=>some (i*ei.size,ei.size)) ti.zero ((parts.toList.map Prod.fst).zip xs)
  |_=>none).bind fun cs=>k {v:=.agg cs}
 |.makeFunc f first _=>(qE xs).bind fun vs=>k (val (.fn f (vs.take first.size) (vs.drop first.size)))
 |.alloc t=>(tt t).bind fun ti=>k {v:=.one (.ptr (ct+1) 0),add:=[(ct+1,.box t ti.zero)]}
 |.box t _=>match xs with| [a]=>(ml a).bind fun cs=>k {v:=.one (.ptr (ct+1) 0),add:=[(ct+1,.box t cs)]}|_=>none
 |.load t _=>match xs with| [.one v]=>Cg tb tt t v ob k|_=>none
 |.store t _ _=>match xs with| [.one p,a]=>wH tb tt t p a ob k|_=>none
 |.indexAddr t _ y=>match xs with| [.one v,i]=>(idxOf i).bind fun i=>vQ tt t y v i ob k|_=>none
 |.index t _ _=>(tt t).bind fun ti=>match ti.d,xs with
  |.str,[.one (.str l),i]=>(idxOf i).bind fun i=>(idx l i).bind fun c=>k (val (.u8 c))
  |.array n e,[.agg [.ai n' kk f],i]=>(tt e).bind fun ei=>(idxOf i).bind fun i=>(match Nat.beq n' n,Nat.beq ei.size 1,ep ei.d with
   |true,true,false=>(l9 (0<=i/\i<n)).bind fun _=>k (val (.int kk (oM f i)))
   |_,_,_=>none)
  |_,_=>none
 |.slice t _ lo hi mx=>match xs with
  |.one v::r=>(py lo r).bind fun a=>(py hi a.2).bind fun b=>(py mx b.2).bind fun c=>match v with| .ptr o off=>(match has t fa.parts with|true=>rS tt t o off a.1 b.1 c.1 ob k|false=>rT tt t o off a.1 b.1 c.1 k)|v=>(match has t fa.parts&&a.1.isSome with|true=>Ct tt t v a.1 b.1 c.1 ob ct k|false=>tB tt t v a.1 b.1 c.1 ob ct k)
  |_=>none
 |.buildSlice t len parts=>(ft tt t).bind fun ec=>(tt ec.1).bind fun ei=>
  let ps:=(parts.toList.map Prod.fst).zip xs
  match Nat.beq len xs.length&&zD 0 ps&&Nat.ble (len*ei.size) 16777216 with
  |true=>(L8 tb ec.2 ps).bind fun l=>match has t fa.lits||(Nat.beq len 0&&has t fa.Uc)with
   |true=>k {v:=.one (.aw (ct+1)),add:=[(ct+1,.arr ec.1 ec.2 true l)]}
   |false=>k {v:=.one (.rw (ct+1) ec.2 l),add:=[(ct+1,.row ec.1 ec.2)]}
  |false=>none
 |.makeMap t r=>match r,xs with
  |none,[]=>(match gR tb tt t with
   |some i=>k {v:=.one (.mp (ct+1)),add:=[(ct+1,.map t i.1 i.2.1 [] none)]}
   |none=>(match oT tb tt t with
    |some i=>k {v:=.one (.mp (ct+1)),add:=[(ct+1,.nI t i.2.2 i.1 i.2.1 [] none)]}
    |none=>(vV tb tt t).bind fun i=>k {v:=.one (.mp (ct+1)),add:=[(ct+1,.BD t i [])]}))
  |_,_=>none
 |.lookup t _ _ ok=>match xs with| [.one v,key]=>(match(gR tb tt t).isSome,(oT tb tt t).isSome with|true,_=>Ch tb tt t v key ok ob k|false,true=>(match has t fa.takes with|true=>vP tb tt t v key ok ob ct k|false=>vM tb tt t v key ok ob k)|false,false=>vU tb tt t v key ok ob k)|_=>none
 |.mapEntry t _ _=>match xs with| [.one v,key]=>Ck tb tt t v key ob ct k|_=>none
 |.entryStore t _ _ _=>match xs with| [.one v,.one s,w]=>LP tb tt t v s w ob k|_=>none
 |.mapUpdate t _ _ _=>match xs with| [.one v,key,w]=>(match(gR tb tt t).isSome,(oT tb tt t).isSome with|true,_=>jT tb tt t v key w ob k|false,true=>(match w with| .one w=>Ca tb tt t v key w ob k|_=>none)|false,false=>zO tb tt t v key w ob k)|_=>none
 |.range t _=>match xs with| [.one v]=>wm tb tt t v ob ct k|_=>none
 |.entry _=>match xs with| [.one v]=>vF tb tt v ob k|_=>none
 |.makeSlice t x y=>match xs,DY x y with
  |[a,_],true=>(idxOf a).bind fun n=>(ft tt t).bind fun ec=>(tt ec.1).bind fun ei=>(match Ag ec.2,ep ei.d with
   |true,false=>(ym tb ec.2 ei.zero).bind fun z=>(l9 (0<=n/\n*ei.bytes<=140737488355328)).bind fun _=>
    k {v:=.one (.aw (ct+1)),add:=[(ct+1,.arr ec.1 ec.2 true (List.replicate n.toNat z))]}
   |_,_=>none)
  |_,_=>none
 |.call c=>match c.callee with
  |.builtin b=>match b,xs with
   |.len,[.one v]=>(match c.argTypes.toList with| [t]=>L7 tt t v ob k|_=>none)
   |.append,[.one v,.one w]=>(match c.argTypes.toList with| [t,t']=>(match Nat.beq t t' with|true=>(match v,w with| .rw q d l,.px o off n i j=>nt tt t q d l o off n i j ob ct k|v,w=>rk tt fa t v w ob ct k)|false=>nu tb tt t t' v w ob ct k)|_=>none)
   |.copy,[.one v,.one w]=>(match c.argTypes.toList with| [t,_]=>BX tt t v w ob k|_=>none)
   |.clear,[.one v]=>(match c.argTypes.toList with| [t]=>vz tb tt t v ob k|_=>none)
   |.delete,[.one v,key]=>(match c.argTypes.toList with| [t,_]=>LI tb tt t v key ob k|_=>none)
   |.cap,[.one .dW]=>(match c.argTypes.toList with| [t]=>(ft tt t).bind fun _=>k (val (.int .i64 0))|_=>none)
   |.min,[.one v,.one w]=>(num v).bind fun x=>(num w).bind fun y=>match decEq x.1 y.1 with|isTrue _=>k (val (nQ x.1 (j9 x.2 y.2)))|isFalse _=>none
   |.max,[.one v,.one w]=>(num v).bind fun x=>(num w).bind fun y=>match decEq x.1 y.1 with|isTrue _=>k (val (nQ x.1 (imax x.2 y.2)))|isFalse _=>none
   |_,_=>none
  |.value _=>match xs with
   |.one (.fn (.func f) first caps)::args=>(match Nat.ble f 999999 with|true=>mj tb f (first.map vq++args++caps.map vq) ob ct k Φ|false=>none)
   |.one (.yl q)::args=>(look q ob).bind fun a=>match a.2 with| .loop r .ready _=>mj tb (Yt r) (.one (.yl q)::args) ob ct k Φ|_=>none
   |_=>none
  |.invoke _ _=>none
 |.insert t _ _ _=>match xs with| [.one v,key,w]=>zO tb tt t v key w ob k|_=>none
 |_=>none
end
def ri:CV S->List Value
 |.int k x=>[.int k x]
 |.u8 x=>[.int .u8 (x.toNat:Int)]
 |.tt b=>[.bool b]
 |.str l=>[.string (Proofs.YtjfkdglgecgjfaaGreat.str l)]
 |.dW=>[.slice none 0 0]
 |.iV=>[.pointer none]
 |.ez=>[.nilFunc]
 |.xN=>[.map none]
 |.uM=>[.nilIface]
 |.a8 n f=>(List.range n).map (fun i=>.int .u8 ((f i).toNat:Int))
 |.ai n k f=>(List.range n).map (fun i=>.int k (f i))
 |_=>[]
def gA(vs:List (CV S)):List Value:=vs.flatMap ri
def NP:Value->Value->Bool
 |.int k n,.int k' n'=>decide (k=k')&&decide (n=n')
 |.bool b,.bool b'=>b == b'
 |.slice none 0 0,.slice none 0 0=>true
 |.pointer none,.pointer none=>true
 |.nilFunc,.nilFunc=>true
 |.map none,.map none=>true
 |.nilIface,.nilIface=>true
 |.string s,.string s'=>decide (s.data.toList=s'.data.toList)
 |_,_=>false
def LO:List Value->List Value->Bool
 |[],[]=>true
 |v::vs,w::ws=>match NP v w with|true=>LO vs ws|false=>false
 |_,_=>false
def ya:Value->Option (CV S)
 |.int .u8 n=>match decEq (n % 256) n with|isTrue _=>some (.u8 (G.u8 n))|isFalse _=>none
 |.int k n=>some (.int k n)
 |.bool b=>some (.tt b)
 |.string s=>some (.str s.data.toList)
 |.slice none 0 0=>some .dW
 |.pointer none=>some .iV
 |.nilFunc=>some .ez
 |.map none=>some .xN
 |.nilIface=>some .uM
 |_=>none
def nz:List Value->Option (List (CV S))
 |[]=>some []
 |v::vs=>(ya v).bind fun x=>(nz vs).map (x:: ·)
def CQ(tt:TypeId->Option (TI S))(t:TypeId):Value->Option (AV S)
 |.agg cs=>match tt t with
  |some i=>(match LO (gA i.zero) cs.toList with|true=>some (.agg i.zero)|false=>(nz cs.toList).map .agg)
  |none=>(nz cs.toList).map .agg
 |.tuple vs=>match vs.toList with| []=>some (AV.fg S)|_=>none
 |v=>(ya v).map .one
def F6(o:Oper):List TypeId:=match o.op with
 |.move _=>[o.type]
 |.assign _=>[o.type]
 |.store t _ _=>[0,t]
 |.binOp _ t _ _ _=>[t,t]
 |.call c=>match c.callee with| .builtin _=>c.argTypes.toList|_=>0::c.argTypes.toList
 |_=>[]
def AS.get(σ:AS S)(t:Tmp):Option (Nat×AV S):=look (σ.fb+t) σ.tm
def mF(tt:TypeId->Option (TI S))(σ:AS S)(t:TypeId):Operand->Option (AV S)
 |.tmp u=>(σ.get u).map (·.2)
 |.const v=>CQ tt t v
 |.func f=>some (.one (.fn (.func f) [] []))
 |.global _=>none
def nS(tt:TypeId->Option (TI S))(σ:AS S):List TypeId->List Operand->Option (List (AV S))
 |_,[]=>some []
 |[],x::xs=>(mF tt σ 0 x).bind fun a=>(nS tt σ [] xs).map (a:: ·)
 |t::ts,x::xs=>(mF tt σ t x).bind fun a=>(nS tt σ ts xs).map (a:: ·)
def Gn(bN:Nat)(b:Bool):List (Nat×Nat×AV S)->List (Nat×Nat×AV S)
 |[]=>[]
 |(t,v,a)::l=>match Nat.beq v bN with|true=>(t,v,.one (.tt b))::Gn bN b l|false=>(t,v,a)::Gn bN b l
def AS.gI(σ:AS S)(bN:Nat)(b:Bool):AS S:={σ with tm:=Gn bN b σ.tm}
def AS.put(σ:AS S)(d:Option Tmp)(bN:Option Nat)(v:AV S):AS S:=match d with
 |some d=>{σ with tm:=(σ.fb+d,bN.getD σ.ct,v)::pG (σ.fb+d) σ.tm}
 |none=>σ
def sj(v:Nat):List (Nat×AO S)->List (Nat×Nat×AO S)
 |[]=>[]
 |(q,a)::l=>(q,v,a)::sj (v+1) l
def AS.jk(σ:AS S)(d:Option Tmp)(bN:Option Nat)(r:fD S):AS S:=
 {σ.put d bN r.v with ob:=sj (σ.ct+32) r.add++cZ r.rm σ.ob,ct:=σ.ct+64}
def kr(σ:AS S):Op->Option Nat
 |.move (.tmp t)=>(σ.get t).map (·.1)
 |.assign (.tmp t)=>(σ.get t).map (·.1)
 |_=>none
abbrev Log:=List (Nat×List Nat×List Nat)
def uG(ops:Array Oper):Log->Bool
 |[]=>true
 |(j,rd,rm)::l=>(l.all fun p=>D.mS ops p.1 j||!(rm.any (fun x=>has x p.2.1||has x p.2.2)||rd.any fun x=>has x p.2.2))&&uG ops l
section
variable {γ:Type}(tt:TypeId->Option (TI S))(Φ:List (gj S))(fa:FA S)
def qw(ops:Array Oper)(g:Option (Nat×Bool))(σ:AS S)(go:Bool->AS S->Option γ):Option γ:=match g with
 |none=>go true σ
 |some (j,b)=>match(pD ops j).bind σ.get with
  |some (bN,.one v)=>(match v with
   |.tt c=>go (c == b) σ
   |.bo _ p d _=>@ite _ p d (go b (σ.gI bN true)) (go (!b) (σ.gI bN false))
   |_=>none)
  |some (_,.dv [])=>go false σ
  |_=>none
def mw(sq:Bool)(ops:Array Oper):List Oper->Nat->AS S->Log->(AS S->Log->Option γ)->Option γ
 |[],_,σ,lg,k=>k σ lg
 |o::rest,i,σ,lg,k=>qw ops o.guard σ fun run σ=>match run with
  |false=>mw sq ops rest (i+1) {σ.put o.dst none (AV.fg S)with ct:=σ.ct+64} lg k
  |true=>match nS tt σ (F6 o) o.op.operands.toList with
   |some xs=>match Sq fa sq o xs with
    |none=>core tb tt Φ fa o xs σ.ob σ.ct fun r=>match eY (r.rd++r.rm)with
     |true=>mw sq ops rest (i+1) (σ.jk o.dst (kr σ o.op) r) ((i,r.rd,r.rm++r.add.map (·.1))::lg) k
     |false=>none
    |some fx=>jQ tb fx.1 fx.2 σ.ob σ.ct (fun r=>mw sq ops rest (i+1) (σ.jk o.dst none r) lg k) fa.nd
   |none=>none
end
inductive An where
 |o
 |u (a:An)
 |b (l r:An)
 |j (J:JA) (a:An)
 |lp (J:JA) (a:An)
 |mr (J:JA) (q:Nat) (a:An)
 |z (l:List (Nat×Nat×T8)) (a:An)
 deriving Inhabited
def An.l1:An->An
 |.u a=>a
 |.b l _=>l
 |_=>.o
def An.r1:An->An
 |.b _ r=>r
 |_=>.o
variable (S) in
def Kp(β:Type):=∀γ:Type,(β->γ)->QK->AS S->Option γ
variable (S) in
def W:=An->AS S->(β:Type)->Kp S β->(γ:Type)->(β->γ)->Option γ
def fm:Code->List Nat
 |.seq x y=>fm x++fm y
 |.cond _ x y=>fm x++fm y
 |.block _ x=>fm x
 |.scope x=>fm x
 |.loop x=>fm x
 |.region _ ops _=>ops.toList.filterMap (·.dst)
 |.rangeFunc _ ps x y=>ps.toList++(fm x++fm y)
 |_=>[]
def JA.at_(J:JA)(c:Code)(fb:Nat):JA:={J with kill:=(fm c).map (fb+ ·)++J.kill}
def kN(J:JA)(σ:AS S):Kp S (HT S J.ls):=fun _ e ex σ'=>match ex with
 |.normal=>(pack tb J σ σ').bind fun z=>some (e z)
 |_=>none
def kJ(J:JA)(σ:AS S){β γ:Type}(κ:Kp S β)(emb:β->γ):Kp S (HT S J.ls⊕γ):=fun δ e ex σ'=>match ex with
 |.normal=>(pack tb J σ σ').bind fun z=>some (e (.inl z))
 |ex=>κ δ (fun b=>e (.inr (emb b))) ex σ'
def kS{β:Type}(f:W S)(an:An)(κ:Kp S β):Kp S β:=fun δ e ex σ'=>match ex with
 |.normal=>f an σ' β κ δ e
 |ex=>κ δ e ex σ'
def kB{β:Type}(id:Nat)(κ:Kp S β):Kp S β:=fun δ e ex σ'=>match ex with
 |.exit n=>match Nat.beq n id with|true=>κ δ e .normal σ'|false=>κ δ e (.exit n) σ'
 |ex=>κ δ e ex σ'
def VU(c:Code)(f:W S):W S:=fun an σ β κ γ emb=>match an with
 |.j J a=>match J.early with
  |false=>(f a σ (HT S J.ls) (kN tb (J.at_ c σ.fb) σ) (HT S J.ls) id).bind fun z=>
   match unpack tb (J.at_ c σ.fb) σ z with|some σ1=>κ γ emb .normal σ1|none=>none
  |true=>(f a σ (HT S J.ls⊕γ) (kJ tb (J.at_ c σ.fb) σ κ emb) (HT S J.ls⊕γ) id).bind fun z=>
   xj z fun u=>match unpack tb (J.at_ c σ.fb) σ u with|some σ1=>κ γ emb .normal σ1|none=>none
 |a=>f a σ β κ γ emb
def wj(c:Code)(f:W S):W S:=fun an σ β κ γ emb=>match an with
 |.z l a=>match F9 l σ with|some σ1=>VU tb c f a σ1 β κ γ emb|none=>none
 |an=>VU tb c f an σ β κ γ emb
def qL:Code->Nat
 |.region id _ _=>id
 |.seq x _=>qL x
 |_=>0
def jX(σ:AS S)(lp:AO S):AS S:={σ with ob:=(σ.ct+1,σ.ct+32,lp)::σ.ob,ct:=σ.ct+64}
def iA(q:Nat)(σ2:AS S){β γ:Type}(κ:Kp S β)(emb:β->γ):Option γ:=
 match look q σ2.ob with
 |some (_,.loop _ st _)=>(match st with
  |.ready=>κ γ emb .normal {σ2 with ob:=cZ [q] σ2.ob}
  |.done .ret=>κ γ emb .ret {σ2 with ob:=cZ [q] σ2.ob}
  |.done (.exit n)=>κ γ emb (.exit n) {σ2 with ob:=cZ [q] σ2.ob}
  |_=>none)
 |_=>none
def XQ(ops:Array Oper):Option (Nat×Nat×Nat):=match ops.toList with
 |[a,b]=>match a.op,a.dst,a.guard,b.op,b.dst,b.guard with
  |.next (.tmp it) false,some nx,none,.extract (.tmp nx') 0,some c,none=>(match Nat.beq nx nx' with|true=>some (it,nx,c)|false=>none)
  |_,_,_,_,_,_=>none
 |_=>none
def Jx(t:Nat)(l:List (Nat×Nat×AV S)):List (Nat×Nat×AV S):=l.filter fun p=>!Nat.beq p.1 t
def AS.cz(σ:AS S)(t:Nat):AS S:={σ with tm:=Jx (σ.fb+t) σ.tm}
def HV(q it:Nat)(σ:AS S):Bool:=match σ.get it,look q σ.ob with
 |some (_,.one (.R9 q')),some (_,.pO kc o _)=>(match look o σ.ob with
  |some (_,.jv _ kc' _ _ none q2)=>Nat.beq q' q&&(Nat.beq q2 q&&match decEq kc' kc with|isTrue _=>true|isFalse _=>false)
  |_=>false)
 |_,_=>false
def Mf(q it nx c:Nat){kc:Co}(x:T S kc)(σ:AS S):Option (AS S):=match look q σ.ob with
 |some (_,.pO kc' o _)=>(match decEq kc kc',HV q it σ with
  |isTrue h,true=>some (ES {(σ.cz nx).cz c with ob:=cZ [q] σ.ob} q (.pO kc' o (some (some (wZ h x)))))
  |_,_=>none)
 |_=>none
def Cm(q it nx c:Nat)(σ:AS S):Option (AS S):=match look q σ.ob with
 |some (_,.pO _ o _)=>(match look o σ.ob,HV q it σ with
  |some (_,.jv t kc vc l none _),true=>some (ES {((σ.cz nx).cz c).cz it with ob:=cZ [o] (cZ [q] σ.ob)} o (.map t kc vc l none))
  |_,_=>none)
 |_=>none
def kM(q ver:Nat)(J:JA)(σ:AS S){β γ:Type}(κ:Kp S β)(emb:β->γ):Kp S (HT S J.ls⊕γ):=fun δ e ex σ'=>match ex with
 |.normal=>(match look q σ'.ob with
  |some (v,_)=>(match Nat.beq v ver with|true=>(pack tb J σ σ').bind fun z=>some (e (.inl z))|false=>none)
  |none=>none)
 |ex=>κ δ (fun b=>e (.inr (emb b))) ex σ'
def Oo{kc kc' vc:Co}(h:kc'=kc)(l:List (T S kc'×T S vc)):List (T S kc):=h▸l.map (·.1)
noncomputable def So(J:JA)(q:Nat)(σ:AS S)(it nx c out:Nat)(f:AS S->(β:Type)->Kp S β->(γ:Type)->(β->γ)->Option γ){β γ:Type}(κ:Kp S β)(emb:β->γ):Option γ:=match look q σ.ob with
 |some (_,.pO kc o none)=>(match look o σ.ob with
  |some (_,.jv _ kc1 _ l none q1)=>(match decEq kc1 kc,Nat.beq q1 q with
   |isTrue h,true=>(pack tb J σ σ).bind fun z0=>sy (fun p:List (T S kc)=>p.Perm (Oo h l)) fun p=>nP
    (fun x z=>match unpack tb J σ z with
     |some σ1=>(match Mf q it nx c x σ1 with
      |some σ2=>f σ2 (HT S J.ls⊕γ) (kM tb q (σ1.ct+32) J σ κ emb) (HT S J.ls⊕γ) id
      |none=>none)
     |none=>none)
    (fun z=>match unpack tb J σ z with
     |some σ1=>(match Cm q it nx c σ1 with
      |some σ2=>κ γ emb (.exit out) σ2
      |none=>none)
     |none=>none) p z0
   |_,_=>none)
  |_=>none)
 |_=>none
section
variable (tt:TypeId->Option (TI S))(Φ:List (gj S))(fa:FA S)
noncomputable def xc:Code->W S
 |.skip=>wj tb (.skip) fun _ σ _ κ γ emb=>κ γ emb .normal σ
 |.label _=>wj tb (.label default) fun _ σ _ κ γ emb=>κ γ emb .normal σ
 |.ret=>wj tb (.ret) fun _ σ _ κ γ emb=>κ γ emb .ret σ
 |.exit n=>wj tb (.exit n) fun _ σ _ κ γ emb=>κ γ emb (.exit n) σ
 |.seq x y=>wj tb (.seq x y) fun an σ β κ γ emb=>xc x an.l1 σ β (kS (xc y) an.r1 κ) γ emb
 |.cond c x y=>wj tb (.cond c x y) fun an σ β κ γ emb=>match c with
  |.tmp t=>match σ.get t with
   |some (bN,.one v)=>(match v with
    |.tt true=>xc x an.l1 σ β κ γ emb
    |.tt false=>xc y an.r1 σ β κ γ emb
    |.bo _ p d _=>@ite _ p d (xc x an.l1 (σ.gI bN true) β κ γ emb) (xc y an.r1 (σ.gI bN false) β κ γ emb)
    |.na true _=>agree (xc x an.l1 (σ.gI bN true) β κ γ emb) (xc y an.r1 (σ.gI bN false) β κ γ emb)
    |.na false true=>xc x an.l1 (σ.gI bN true) β κ γ emb
    |.na false false=>xc y an.r1 (σ.gI bN false) β κ γ emb
    |_=>none)
   |_=>none
  |.const (.bool true)=>xc x an.l1 σ β κ γ emb
  |.const (.bool false)=>xc y an.r1 σ β κ γ emb
  |_=>none
 |.block id body=>wj tb (.block id body) fun an σ β κ γ emb=>xc body an.l1 σ β (kB id κ) γ emb
 |.scope body=>wj tb (.scope body) fun an σ β κ γ emb=>xc body an.l1 σ β κ γ emb
 |.loop body=>wj tb (.loop body) fun an σ _ κ γ emb=>match an with
  |.lp J a=>(pack tb (J.at_ (.loop body) σ.fb) σ σ).bind fun z0=>Iter (fun z=>match unpack tb (J.at_ (.loop body) σ.fb) σ z with
   |some σ1=>xc body a σ1 (HT S J.ls⊕γ) (kJ tb (J.at_ (.loop body) σ.fb) σ κ emb) (HT S J.ls⊕γ) id
   |none=>none) z0
  |.mr J q a=>(match body with
   |.seq (.region _ ops false) (.seq (.cond (.tmp c') .skip (.exit out)) rest)=>(match XQ ops with
    |some (it,nx,c)=>(match Nat.beq c' c with
     |true=>So tb (J.at_ (.loop body) σ.fb) q σ it nx c out (fun σ2 β κ γ emb=>xc rest a σ2 β κ γ emb) κ emb
     |false=>none)
    |none=>none)
   |_=>none)
  |_=>none
 |.region _ ops draw=>wj tb (.region default ops draw) fun _ σ _ κ γ emb=>mw tb tt Φ fa (!draw) ops ops.toList 0 σ [] fun σ' lg=>match !draw||(uG ops lg&&eY (σ'.ob.map (·.1)))with
  |true=>κ γ emb .normal σ'
  |false=>none
 |.rangeFunc g ps x y=>wj tb (.rangeFunc g ps x y) fun _ σ _ κ γ emb=>match fa.rd,σ.fb,mF tt σ 0 g with
  |false,0,some (.one (.fn (.func f) [] caps))=>(match Nat.ble f 999999 with
   |true=>(match fa.nd.any fun c=>Nat.beq c.f f with
    |false=>mj tb f (.one (.yl (σ.ct+1))::caps.map vq) (jX σ (.loop (fa.fn*1000+qL x) .ready σ.tm)).ob (σ.ct+64) (fun r=>match eY (r.rd++r.rm)with
     |true=>iA (σ.ct+1) ((jX σ (.loop (fa.fn*1000+qL x) .ready σ.tm)).jk none none r) κ emb
     |false=>none) Φ
    |true=>jQ tb f (.one (.yl (σ.ct+1))::caps.map vq) (jX σ (.loop (fa.fn*1000+qL x) .ready σ.tm)).ob (σ.ct+64) (fun r=>iA (σ.ct+1) ((jX σ (.loop (fa.fn*1000+qL x) .ready σ.tm)).jk none none r) κ emb) fa.nd)
   |false=>none)
  |_,_,_=>none
 |.goto _=>fun _ _ _ _ _ _=>none
 |.refuse _=>fun _ _ _ _ _ _=>none
def Ja:Nat->List (AV S)->List (Nat×Nat×AV S)
 |_,[]=>[]
 |i,a::l=>(i,64+i,a)::Ja (i+1) l
def start(c:gj S)(x:HT S c.ls):Option (AS S):=
 (kF c.bk (nG c.ls x)).bind fun ds=>(PS.dP tb id c.ins ds).bind fun p=>(OS.dP tb id c.eZ p.2).bind fun q=>
 some {tm:=Ja 0 p.1,ob:=FV 0 q.1,ct:=256,fb:=0,rt:=List.range c.eZ.length}
def mH(tt:TypeId->Option (TI S))(σ:AS S):List ResultVar->Option (List (AV S))
 |[]=>some []
 |.tmp t::l=>(σ.get t).bind fun a=>(mH tt σ l).map (a.2:: ·)
 |.cell t ty::l=>(σ.get t).bind fun a=>match a.2 with
  |.one (.ptr o 0)=>(look o σ.ob).bind fun b=>match b.2 with
   |.box _ cs=>(tt ty).bind fun i=>(match ep i.d with|true=>(nC i.size cs).map AV.agg|false=>(qg 0 cs).map AV.one).bind fun v=>(mH tt σ l).map (v:: ·)
   |_=>none
  |_=>none
def Ah:List (AV S)->AV S
 |[a]=>a
 |l=>.dv l
def OS.fA(ob:List (Nat×Nat×AO S))(mp:List (Nat×Nat)):Nat->List KS->Option (List (fC S)×List (Nat×Nat))
 |_,[]=>some ([],mp)
 |o,.now s::l=>(look o mp).bind fun q=>(look q ob).bind fun a=>(OS.take tb mp s a.2).bind fun p=>(OS.fA ob p.2 (o+1) l).map fun r=>(p.1++r.1,r.2)
 |o,_::l=>OS.fA ob mp (o+1) l
def Km:Nat->List Nat->List (Nat×Nat)
 |_,[]=>[]
 |i,x::l=>(i,x)::Km (i+1) l
def zL(σ0 σ:AS S):Nat->List KS->Bool
 |_,[]=>true
 |o,.kept::l=>(match σ.rt[o]? with|some q=>Nat.beq q o|none=>false)&&(match look o σ0.ob,look o σ.ob with|some x,some y=>Nat.beq x.1 y.1|_,_=>false)&&zL σ0 σ (o+1) l
 |o,_::l=>zL σ0 σ (o+1) l
def iW(mp:List (Nat×Nat)):Nat->List KS->List Nat
 |_,[]=>[]
 |o,.now _::l=>match look o mp with|some q=>q::iW mp (o+1) l|none=>iW mp (o+1) l
 |o,_::l=>iW mp (o+1) l
def gD:Nat->List KS->List Nat
 |_,[]=>[]
 |o,.kept::l=>o::gD (o+1) l
 |o,_::l=>gD (o+1) l
def finish(n:Nat)(o:Out)(v:AV S)(σ0 σ:AS S):Option (HT S o.sD):=
 (PS.take tb (Km 0 σ.rt) o.out v).bind fun p=>(OS.fA tb σ.ob p.2 0 o.e8).bind fun q=>
 match zL σ0 σ 0 o.e8&&(eY (gD 0 o.e8++iW q.2 0 o.e8)&&Nat.beq σ.rt.length n&&q.2.all fun p=>Nat.ble (p.1+1) o.e8.length)with
 |true=>(kF o.YI (p.1++q.1)).bind (pI o.sD)
 |false=>none
def bT(n:Nat)(v:AV S)(σ0 σ:AS S):(os:List Out)->Option (kH S os)
 |[]=>none
 |[o]=>finish tb n o v σ0 σ
 |o::p::os=>match finish tb n o v σ0 σ with
  |some z=>some (Sum.inl z)
  |none=>(bT n v σ0 σ (p::os)).map Sum.inr
noncomputable def Wx(c:gj S)(rs:List ResultVar)(body:Code)(an:An)(x:HT S c.ls):Option (kH S c.outs):=
 match start tb c x with
 |some σ0=>xc tb tt Φ fa body an σ0 (kH S c.outs) (fun _ e' ex σ=>match ex with
  |.exit _=>none
  |_=>(F9 fa.pre σ).bind fun σ=>(mH tt σ rs).bind fun vs=>(bT tb c.eZ.length (Ah vs) σ0 σ c.outs).bind fun y=>some (e' y)) (kH S c.outs) id
 |none=>none
end
end E
end Go.Proofs.YtjfkdglgecgjfaaGreat
