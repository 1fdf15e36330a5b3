/- Part of the proof. -/
import Derived.Test.YtekpafdhgkocaaaGreatZDraw
import Derived.Test.YtekpafdhgkocaaaGreatZMp
namespace Go.Proofs.YtekpafdhgkocaaaGreat
open Go.RowKit G
namespace E
inductive Co where
 | int (k:IntKind)
 | u8
 | bo
 | str
 | sl (c:Co)
 | st (i:Nat)
 | a8 (n:Nat)
 | ai (n:Nat) (k:IntKind)
 | mp (k v:Co)
 deriving DecidableEq,Inhabited
def T(S:Nat->Type):Co->Type
 | .int _=>Int
 | .u8=>UInt8
 | .bo=>Bool
 | .str=>List UInt8
 | .sl c=>List (T S c)
 | .st i=>S i
 | .a8 _=>Nat->UInt8
 | .ai _ _=>Nat->Int
 | .mp k v=>List (T S k×T S v)
def HL(S:Nat->Type):List Co->Type
 | []=>Unit
 | c::cs=>T S c×HL S cs
def HT(S:Nat->Type):List Co->Type
 | []=>Unit
 | [c]=>T S c
 | c::d::cs=>T S c×HT S (d::cs)
variable (S:Nat->Type)
inductive CV where
 | int (k:IntKind) (x:Int)
 | u8 (x:UInt8)
 | bo (b:Bool) (p:Prop) (d:Decidable p) (h:b=true↔p)
 | tt (b:Bool)
 | str (l:List UInt8)
 | sl (c:Co) (l:List (T S c))
 | Wv (c:Co) (l:List (T S c))
 | rw(o:Nat) (c:Co) (l:List (T S c))
 | aw (o:Nat)
 | fk
 | a8 (n:Nat) (f:Nat->UInt8)
 | ai (n:Nat) (k:IntKind) (f:Nat->Int)
 | ptr (o off:Nat)
 | km
 | el (c:Co) (x:T S c) (off:Nat)
 | M5 (o:Nat) (v:Nat) (c:Co) (x:T S c) (j:Int) (off:Nat)
 | Ss (o off n:Nat) (i:Int)
 | px (o off n:Nat) (i j:Int)
 | fn (f:Fn) (first caps:List CV)
 | ag (xs:List CV)
 | dy
 | uI
 | Cp
 | yl (o:Nat)
 | na (e neg:Bool)
 | rz (o:Nat) (c:Co) (n:Int)
 | pt (o:Nat) (c:Co) (off n:Int)
 | mp (o:Nat)
 | WA (o q:Nat)
 | VE (q:Nat)
 deriving Inhabited
inductive AV where
 | one (v:CV S)
 | agg (vs:List (CV S))
 | m8 (vs:List AV)
 deriving Inhabited
def AV.sG:AV S:= .m8 []
inductive RD where
 | normal
 | ret
 | exit (n:Nat)
inductive LS where
 | ready
 | busy
 | done (e:RD)
def LS.same:LS->LS->Bool
 | .ready, .ready=>true
 | .busy, .busy=>true
 | .done .normal, .done .normal=>true
 | .done .ret, .done .ret=>true
 | .done (.exit n), .done (.exit k)=>Nat.beq n k
 | _,_=>false
inductive AO where
 | box (T:TypeId) (cs:List (CV S))
 | row (e:TypeId) (c:Co)
 | arr (e:TypeId) (c:Co) (full:Bool) (l:List (T S c))
 | loop (r:Nat) (st:LS) (tm:List (Nat×Nat×AV S))
 | map (t:TypeId) (kc vc:Co) (l:List (T S kc×T S vc)) (hole:Option (T S kc×Nat))
 | eT (t et:TypeId) (kc c:Co) (l:List (T S kc×List (T S c))) (hole:Option (T S kc))
 | H8 (t:TypeId) (kc:Co) (l:List (T S kc×CV S))
 | qY (t:TypeId) (kc vc:Co) (l:List (T S kc×T S vc)) (hole:Option (T S kc×Nat)) (q:Nat)
 | Fa (kc:Co) (o:Nat) (st:Option (Option (T S kc)))
 deriving Inhabited
structure AS where
 tm:List (Nat×Nat×AV S)
 ob:List (Nat×Nat×AO S)
 ct:Nat
 fb:Nat
 rt:List Nat
structure SD(σ:Type) where
 fs:List Co
 to:σ->HL S fs
 of:HL S fs->σ
variable {S}
def look{α:Type}(t:Nat):List (Nat×α)->Option α
 | []=>none
 | (u,x)::l=>match Nat.beq u t with|true=>some x|false=>look t l
def drop1{α:Type}(t:Nat):List (Nat×α)->List (Nat×α)
 | []=>[]
 | (u,x)::l=>match Nat.beq u t with|true=>l|false=>(u,x)::drop1 t l
inductive TD where
 | int (k:IntKind)
 | bool
 | str
 | ptr (e:TypeId)
 | slice (e:TypeId)
 | array (n:Nat) (e:TypeId)
 | struct (fs:List (TypeId×Nat×Nat))
 | func
 | iface
 | map (k v:TypeId)
 deriving Inhabited
variable (S)
structure TI where
 d:TD
 size:Nat
 bytes:Nat
 zero:List (CV S)
 co:Co:= .bo
 eq:Bool:=false
 deriving Inhabited
variable {S}
def mi:TD->Bool
 | .struct _=>true
 | .array _ _=>true
 | _=>false
def CV.n:CV S->Nat
 | .a8 n _=>n
 | .ai n _ _=>n
 | _=>1
def wP:AV S->Option (List (CV S))
 | .one v=>some [v]
 | .agg vs=>some vs
 | .m8 _=>none
def xK:Nat->List (CV S)->Option (List (CV S))
 | 0,_=>some []
 | _+1,[]=>none
 | n+1,v::vs=>match Nat.ble v.n (n+1)with|true=>(xK (n+1-v.n) vs).map (v:: ·)|false=>none
def cutAt:Nat->List (CV S)->Option (List (CV S))
 | 0,vs=>some vs
 | _+1,[]=>none
 | o+1,v::vs=>match Nat.ble v.n (o+1)with|true=>cutAt (o+1-v.n) vs|false=>none
def zS:Nat->List (CV S)->Option (CV S)
 | _,[]=>none
 | o,v::vs=>match Nat.ble v.n o with
   | true=>zS (o-v.n) vs
   | false=>match v with
     | .a8 _ f=>some (.u8 (f o))
     | .ai _ k f=>some (.int k (f o))
     | v=>some v
def Yc(o n:Nat)(xs vs:List (CV S)):Option (List (CV S)):=
 (xK o vs).bind fun a=>(cutAt (o+n) vs).map fun b=>a++(xs++b)
def TM:Nat->CV S->List (CV S)->Option (List (CV S))
 | _,_,[]=>none
 | o,x,v::vs=>match Nat.ble v.n o with
   | true=>(TM (o-v.n) x vs).map (v:: ·)
   | false=>match v,x with
     | .a8 n f, .u8 y=>some (.a8 n (AA f o y)::vs)
     | .ai n k f, .int k' y=>match decEq k' k with|isTrue _=>some (.ai n k (AA f o y)::vs)|isFalse _=>none
     | .a8 _ _,_=>none
     | .ai _ _ _,_=>none
     | _,x=>some (x::vs)
def Oj(vs:List (CV S)):Nat:=(vs.map CV.n).sum
variable (S) in
abbrev Tb:=(i:Nat)->SD S (S i)
variable (tb:Tb S)
def toCV:(c:Co)->T S c->CV S
 | .int k,x=> .int k x
 | .u8,x=> .u8 x
 | .bo,(b:Bool)=> .bo b (b=true) inferInstance Iff.rfl
 | .str,l=> .str l
 | .sl c,l=> .sl c l
 | .st _,_=> .Cp
 | .a8 n,f=> .a8 n f
 | .ai n k,f=> .ai n k f
 | .mp _ _,_=> .Cp
def toCVs:(cs:List Co)->HL S cs->List (CV S)
 | [],_=>[]
 | c::cs,h=>toCV c h.1::toCVs cs h.2
def RL:(c:Co)->T S c->List (CV S)
 | .st i,x=>toCVs (tb i).fs ((tb i).to x)
 | c,x=>[toCV c x]
def LW:(cs:List Co)->HL S cs->HL S cs->Bool
 | [],_,_=>true
 | .int _::cs,a,b=>cR a.1 b.1&&LW cs a.2 b.2
 | _::_,_,_=>false
def oU:(c:Co)->T S c->T S c->Bool
 | .int _=>cR
 | .str=>Uu
 | .st i=>fun x y=>LW (tb i).fs ((tb i).to x) ((tb i).to y)
 | _=>fun _ _=>false
def Dm:Co->Bool
 | .int .u8=>false
 | .int _=>true
 | .str=>true
 | .st i=>(tb i).fs.all fun c=>match c with| .int .u8=>false| .int _=>true|_=>false
 | _=>false
def PW:Co->Bool
 | .int _=>true
 | .u8=>true
 | .bo=>true
 | .str=>true
 | _=>false
def oH{a b c d:Co}(h:a=c)(k:b=d)(l:List (T S a×T S b)):List (T S c×T S d):=h▸k▸l
def E6{a b c d:Co}(h:a=c)(k:b=d)(l:List (T S a×List (T S b))):List (T S c×List (T S d)):=h▸k▸l
def uO{c d:Co}(h:c=d)(l:List (T S c)):List (T S d):=h▸l
def QW:(c:Co)->CV S->Option (T S c)
 | .int k, .int k' x=>match decEq k k' with|isTrue _=>some x|isFalse _=>none
 | .u8, .u8 x=>some x
 | .bo, .bo b _ _ _=>some b
 | .bo, .tt b=>some b
 | .str, .str l=>some l
 | .sl c, .sl d l=>match decEq d c with|isTrue h=>some (uO h l)|isFalse _=>none
 | .sl c, .Wv d l=>match decEq d c with|isTrue h=>some (uO h l)|isFalse _=>none
 | .sl c, .rw _ d l=>match decEq d c with|isTrue h=>some (uO h l)|isFalse _=>none
 | .sl _, .fk=>some []
 | .a8 n, .a8 n' f=>match Nat.beq n n'&&Nat.ble 1 n with|true=>some f|false=>none
 | .ai n k, .ai n' k' f=>match Nat.beq n n'&&Nat.ble 1 n,decEq k k' with|true,isTrue _=>some f|_,_=>none
 | _,_=>none
def Jk:(cs:List Co)->List (CV S)->Option (HL S cs×List (CV S))
 | [],vs=>some ((),vs)
 | _::_,[]=>none
 | c::cs,v::vs=>(QW c v).bind fun x=>(Jk cs vs).map fun p=>((x,p.1),p.2)
def pk:(c:Co)->List (CV S)->Option (T S c×List (CV S))
 | .st i,vs=>(Jk (tb i).fs vs).map fun p=>((tb i).of p.1,p.2)
 | _,[]=>none
 | c,v::vs=>(QW c v).map fun x=>(x,vs)
def F4(c:Co)(vs:List (CV S)):Option (T S c):=(pk tb c vs).bind fun p=>match p.2 with| []=>some p.1|_::_=>none
def Ww(c:Co):CV S->Option (List (T S c)):=QW (.sl c)
def num:CV S->Option (IntKind×Int)
 | .int k x=>match k with| .u8=>none|k=>some (k,x)
 | .u8 x=>some (.u8,(x.toNat:Int))
 | _=>none
def M6(k:IntKind)(x:Int):CV S:=match k with| .u8=> .u8 (G.u8 x)|k=> .int k x
def WJ(k:IntKind)(x:Int):CV S:=match k with| .u8=> .u8 (G.u8 x)|k=> .int k (k.wrap x)
def Vb(p:Prop)[d:Decidable p]:CV S:= .bo (decide p) p d (decide_eq_true_iff)
def U7{α:Type}[DecidableEq α][BEq α][LawfulBEq α](a b:α):CV S:= .bo (a == b) (a=b) inferInstance beq_iff_eq
def Va{α:Type}[DecidableEq α][BEq α][LawfulBEq α](a b:α):CV S:= .bo (a !=b) (a≠b) inferInstance bne_iff_ne
def Xh(b:Bool):CV S:= .bo b (b=true) inferInstance Iff.rfl
def U9(b:Bool):CV S:= .bo (!b) (b=false) inferInstance (by cases b<;>simp)
def bit:CV S->Option Bool
 | .bo b _ _ _=>some b
 | .tt b=>some b
 | _=>none
def isNil:CV S->Option Bool
 | .km=>some true
 | .dy=>some true
 | .uI=>some true
 | .Cp=>some true
 | .fk=>some true
 | .ptr _ _=>some false
 | .fn _ _ _=>some false
 | .rw _ _ (_::_)=>some false
 | _=>none
def Fs:List (CV S)->List (CV S)->Option (PSigma fun p:Prop=>Decidable p)
 | [.int _ x],[.int _ y]=>some ⟨x=y,inferInstance⟩
 | [.u8 x],[.u8 y]=>some ⟨(x.toNat:Int)=(y.toNat:Int),inferInstance⟩
 | .int _ x::v::vs, .int _ y::w::ws=>(Fs (v::vs) (w::ws)).map fun p=>⟨x=y/\p.1,@instDecidableAnd _ _ inferInstance p.2⟩
 | .u8 x::v::vs, .u8 y::w::ws=>(Fs (v::vs) (w::ws)).map fun p=>⟨(x.toNat:Int)=(y.toNat:Int)/\p.1,@instDecidableAnd _ _ inferInstance p.2⟩
 | [v],[w]=>(bit v).bind fun x=>(bit w).map fun y=>⟨x=y,inferInstance⟩
 | v::v'::vs,w::w'::ws=>(bit v).bind fun x=>(bit w).bind fun y=>(Fs (v'::vs) (w'::ws)).map fun p=>⟨x=y/\p.1,@instDecidableAnd _ _ inferInstance p.2⟩
 | _,_=>none
def kindOk:List (CV S)->List (CV S)->Bool
 | [],[]=>true
 | .int k _::z, .int k' _::v=>decide (k=k')&&kindOk z v
 | .u8 _::z, .u8 _::v=>kindOk z v
 | .tt _::z, .bo _ _ _ _::v=>kindOk z v
 | .tt _::z, .tt _::v=>kindOk z v
 | _,_=>false
def Kr:Operand->Bool
 | .const (.int _ n)=>decide (0<n)
 | _=>false
def Ph:Operand->Bool
 | .const (.int _ n)=>decide (0<=n)
 | _=>false
section
variable {γ:Type}
def XC(v:CV S)(k:Bool->Option γ):Option γ:=match v with
 | .tt b=>k b
 | .bo _ p d _=>@ite _ p d (k true) (k false)
 | _=>none
def QV(op:BinOp)(kv kw:IntKind)(x z:Int)(y:Operand)(k:CV S->Option γ):Option γ:=
 match op with
 | .shl=>(match Ph y with|true=>k (M6 kv (BD kv x z))|false=>(zC (0<=z)).bind fun _=>k (M6 kv (BD kv x z)))
 | .shr=>(match Ph y with|true=>k (M6 kv (lx kv x z))|false=>(zC (0<=z)).bind fun _=>k (M6 kv (lx kv x z)))
 | op=>match decEq kv kw with
   | isFalse _=>none
   | isTrue _=>match op with
     | .lss=>k (Vb (x<z))
     | .leq=>k (Vb (x<=z))
     | .gtr=>k (Vb (x>z))
     | .geq=>k (Vb (x≥z))
     | .eql=>k (U7 x z)
     | .neq=>k (Va x z)
     | .add=>k (WJ kv (x+z))
     | .sub=>k (WJ kv (x-z))
     | .mul=>k (WJ kv (x*z))
     | .and=>k (M6 kv (zx kv x z))
     | .or=>k (M6 kv (bor kv x z))
     | .xor=>k (M6 kv (xD kv x z))
     | .andNot=>k (M6 kv (OH kv x z))
     | .quo=>(match Kr y with|true=>k (WJ kv (Int.tdiv x z))|false=>(zC (z≠0)).bind fun _=>k (WJ kv (Int.tdiv x z)))
     | .rem=>match kv with
       | .u8=>none
       | kv=>(match Kr y with|true=>k (.int kv (Int.tmod x z))|false=>(zC (z≠0)).bind fun _=>k (.int kv (Int.tmod x z)))
     | _=>none
def vK(op:BinOp)(a b:CV S)(k:CV S->Option γ):Option γ:=match op with
 | .eql=>k a
 | .neq=>k b
 | _=>none
def Xp(tt:TypeId->Option (TI S))(op:BinOp)(xT:TypeId)(a b:AV S)(k:CV S->Option γ):Option γ:=
 (tt xT).bind fun ti=>match ti.d,a,b with
 | .str, .one (.str x), .one (.str z)=>vK op (Vb (x=z)) (U9 (decide (x=z))) k
 | .bool, .one v, .one w=>(bit v).bind fun x=>(bit w).bind fun z=>vK op (U7 x z) (Va x z) k
 | .ptr _, .one .km, .one .km=>vK op (.tt true) (.tt false) k
 | .ptr _, .one (.ptr _ _), .one .km=>vK op (.tt false) (.tt true) k
 | .ptr _, .one .km, .one (.ptr _ _)=>vK op (.tt false) (.tt true) k
 | .func, .one .dy, .one .dy=>vK op (.tt true) (.tt false) k
 | .func, .one (.fn _ _ _), .one .dy=>vK op (.tt false) (.tt true) k
 | .slice _, .one .fk, .one .fk=>vK op (.tt true) (.tt false) k
 | .slice _, .one (.sl _ l), .one .fk=>vK op (.na l.isEmpty false) (.na l.isEmpty true) k
 | .slice _, .one (.rw _ _ (_::_)), .one .fk=>vK op (.tt false) (.tt true) k
 | .array n e, .agg [.a8 n1 f], .agg [.a8 n2 g]=>(tt e).bind fun ei=>match ei.d,Nat.beq n 32&&Nat.beq n1 32&&Nat.beq n2 32&&ti.eq with
   | .int .u8,true=>vK op (Xh (Aa f g)) (U9 (Aa f g)) k
   | _,_=>none
 | .struct _, .agg vs, .agg ws=>match ti.eq&&kindOk ti.zero vs&&kindOk ti.zero ws with
   | true=>(Fs vs ws).bind fun p=>vK op (@Vb _ p.1 p.2) (U9 (@decide p.1 p.2)) k
   | false=>none
 | _,_,_=>none
def Qc(tt:TypeId->Option (TI S))(op:BinOp)(xT:TypeId)(y:Operand)(a b:AV S)(k:CV S->Option γ):Option γ:=
 match a,b with
 | .one v, .one w=>
   match num v,num w with
   | some (kv,x),some (kw,z)=>QV op kv kw x z y k
   | _,_=>Xp tt op xT a b k
 | _,_=>Xp tt op xT a b k
end
inductive CS where
 | fP (c:Co)
 | rw(o:Nat) (c:Co)
 | aw (o:Nat)
 | ptr (o off:Nat)
 | km
 | dy
 | fn (f:FuncId) (first caps:List CS)
 | tt (b:Bool)
 | fk
 | yl (o:Nat)
 | ni (o:Nat)
 deriving Inhabited
inductive PS where
 | one (s:CS)
 | agg (l:List CS)
 | m8 (l:List PS)
 deriving Inhabited
inductive OS where
 | box (T:TypeId) (l:List CS)
 | row (e:TypeId) (c:Co)
 | arr (e:TypeId) (c:Co) (full:Bool)
 | loop (r:Nat) (st:LS) (RJ:List (Nat×PS))
 | map (t:TypeId) (kc vc:Co)
 | eT (t et:TypeId) (kc c:Co)
 | qY (t:TypeId) (kc vc:Co) (q:Nat)
 | Fa (kc:Co) (o:Nat)
 deriving Inhabited
variable (S) in
abbrev oE:=(c:Co)×T S c
def DY:CV S->AV S
 | .ag xs=> .agg xs
 | v=> .one v
def nag:CV S->Bool
 | .ag _=>false
 | _=>true
def Wa(v:CV S):Bool:=Nat.beq v.n 1
mutual
def CS.fill(ids:Nat->Nat):CS->List (oE S)->Option (List (CV S)×List (oE S))
 | .fP c,⟨c',x⟩::ds=>match decEq c' c with|isTrue h=>some (RL tb c (h▸x),ds)|isFalse _=>none
 | .rw o c,⟨c',x⟩::ds=>match decEq c' (.sl c)with|isTrue h=>some ([.rw (ids o) c (show List (T S c) from(h▸x:T S (.sl c)))],ds)|isFalse _=>none
 | .fP _,[]=>none
 | .rw _ _,[]=>none
 | .aw o,ds=>some ([.aw (ids o)],ds)
 | .ptr o off,ds=>some ([.ptr (ids o) off],ds)
 | .km,ds=>some ([.km],ds)
 | .dy,ds=>some ([.dy],ds)
 | .tt b,ds=>some ([.tt b],ds)
 | .fk,ds=>some ([.fk],ds)
 | .yl o,ds=>some ([.yl (ids o)],ds)
 | .ni o,ds=>some ([.mp (ids o)],ds)
 | .fn f xs ys,ds=>(CS.kh ids xs ds).bind fun p=>(CS.kh ids ys p.2).bind fun q=>match p.1.all Wa&&q.1.all Wa with|true=>some ([.fn (.func f) p.1 q.1],q.2)|false=>none
def CS.kh(ids:Nat->Nat):List CS->List (oE S)->Option (List (CV S)×List (oE S))
 | [],ds=>some ([],ds)
 | s::l,ds=>(CS.fill ids s ds).bind fun p=>(CS.kh ids l p.2).map fun q=>(p.1++q.1,q.2)
end
mutual
def PS.fill(ids:Nat->Nat):PS->List (oE S)->Option (AV S×List (oE S))
 | .one s,ds=>(CS.fill tb ids s ds).bind fun p=>match p.1 with| [v]=>some (.one v,p.2)|_=>none
 | .agg l,ds=>(CS.kh tb ids l ds).map fun p=>(.agg p.1,p.2)
 | .m8 l,ds=>(PS.kh ids l ds).map fun p=>(.m8 p.1,p.2)
def PS.kh(ids:Nat->Nat):List PS->List (oE S)->Option (List (AV S)×List (oE S))
 | [],ds=>some ([],ds)
 | s::l,ds=>(PS.fill ids s ds).bind fun p=>(PS.kh ids l p.2).map fun q=>(p.1::q.1,q.2)
end
def A3(ids:Nat->Nat)(cp:Nat):List (Nat×PS)->List (oE S)->Option (List (Nat×Nat×AV S)×List (oE S))
 | [],ds=>some ([],ds)
 | (t,s)::l,ds=>(PS.fill tb ids s ds).bind fun p=>(A3 ids (cp+1) l p.2).map fun q=>((t,cp,p.1)::q.1,q.2)
def OS.fill(ids:Nat->Nat):OS->List (oE S)->Option (AO S×List (oE S))
 | .box T l,ds=>(CS.kh tb ids l ds).map fun p=>(.box T p.1,p.2)
 | .row e c,ds=>some (.row e c,ds)
 | .arr e c full,⟨c',x⟩::ds=>match decEq c' (.sl c)with|isTrue h=>some (.arr e c full (show List (T S c) from(h▸x:T S (.sl c))),ds)|isFalse _=>none
 | .arr _ _ _,[]=>none
 | .loop r st RJ,ds=>(A3 tb ids 300 RJ ds).map fun p=>(.loop r st p.1,p.2)
 | .map t kc vc,⟨c',x⟩::ds=>match decEq c' (.mp kc vc)with|isTrue h=>some (.map t kc vc (show List (T S kc×T S vc) from(h▸x:T S (.mp kc vc))) none,ds)|isFalse _=>none
 | .map _ _ _,[]=>none
 | .eT t et kc c,⟨c',x⟩::ds=>match decEq c' (.mp kc (.sl c))with|isTrue h=>some (.eT t et kc c (show List (T S kc×List (T S c)) from(h▸x:T S (.mp kc (.sl c)))) none,ds)|isFalse _=>none
 | .eT _ _ _ _,[]=>none
 | .qY t kc vc q,⟨c',x⟩::ds=>match decEq c' (.mp kc vc)with|isTrue h=>some (.qY t kc vc (show List (T S kc×T S vc) from(h▸x:T S (.mp kc vc))) none (ids q),ds)|isFalse _=>none
 | .qY _ _ _ _,[]=>none
 | .Fa kc o,ds=>some (.Fa kc (ids o) (some none),ds)
def OS.kh(ids:Nat->Nat):List OS->List (oE S)->Option (List (AO S)×List (oE S))
 | [],ds=>some ([],ds)
 | s::l,ds=>(OS.fill tb ids s ds).bind fun p=>(OS.kh ids l p.2).map fun q=>(p.1::q.1,q.2)
def WG(mp:List (Nat×Nat))(o q:Nat):Option (List (Nat×Nat)):=match look o mp with
 | some r=>match Nat.beq r q with|true=>some mp|false=>none
 | none=>match(mp.any fun p=>Nat.beq p.2 q)||!Nat.ble o 200 with|true=>none|false=>some ((o,q)::mp)
variable (S) in
abbrev Tk:=List (oE S)×List (CV S)×List (Nat×Nat)
mutual
def CS.take(mp:List (Nat×Nat)):CS->List (CV S)->Option (Tk S)
 | .fP c,vs=>(pk tb c vs).map fun p=>([⟨c,p.1⟩],p.2,mp)
 | .rw o c, .rw q d l::vs=>match decEq d c with|isTrue h=>(WG mp o q).map fun mp=>([⟨.sl c,uO h l⟩],vs,mp)|isFalse _=>none
 | .aw o, .aw q::vs=>(WG mp o q).map fun mp=>([],vs,mp)
 | .ptr o off, .ptr q off'::vs=>match Nat.beq off off' with|true=>(WG mp o q).map fun mp=>([],vs,mp)|false=>none
 | .km, .km::vs=>some ([],vs,mp)
 | .dy, .dy::vs=>some ([],vs,mp)
 | .tt b, .tt c::vs=>(match b == c with|true=>some ([],vs,mp)|false=>none)
 | .fk, .fk::vs=>some ([],vs,mp)
 | .yl o, .yl q::vs=>(WG mp o q).map fun mp=>([],vs,mp)
 | .ni o, .mp q::vs=>(WG mp o q).map fun mp=>([],vs,mp)
 | .fn f xs ys, .fn (.func g) first caps::vs=>match Nat.beq f g&&(first.all nag&&caps.all nag)with
   | true=>(CS.takes mp xs first).bind fun p=>match p.2.1 with
     | []=>(CS.takes p.2.2 ys caps).bind fun q=>match q.2.1 with| []=>some (p.1++q.1,vs,q.2.2)|_::_=>none
     | _::_=>none
   | false=>none
 | _,_=>none
def CS.takes(mp:List (Nat×Nat)):List CS->List (CV S)->Option (Tk S)
 | [],vs=>some ([],vs,mp)
 | s::l,vs=>(CS.take mp s vs).bind fun p=>(CS.takes p.2.2 l p.2.1).map fun q=>(p.1++q.1,q.2.1,q.2.2)
end
mutual
def PS.take(mp:List (Nat×Nat)):PS->AV S->Option (List (oE S)×List (Nat×Nat))
 | .one s, .one v=>(CS.take tb mp s [v]).bind fun p=>match p.2.1 with| []=>some (p.1,p.2.2)|_::_=>none
 | .agg l, .agg vs=>(CS.takes tb mp l vs).bind fun p=>match p.2.1 with| []=>some (p.1,p.2.2)|_::_=>none
 | .m8 l, .m8 vs=>PS.takes mp l vs
 | _,_=>none
def PS.takes(mp:List (Nat×Nat)):List PS->List (AV S)->Option (List (oE S)×List (Nat×Nat))
 | [],[]=>some ([],mp)
 | s::l,v::vs=>(PS.take mp s v).bind fun p=>(PS.takes p.2 l vs).map fun q=>(p.1++q.1,q.2)
 | _,_=>none
end
def vr(tm:List (Nat×Nat×AV S))(mp:List (Nat×Nat)):List (Nat×PS)->Option (List (oE S)×List (Nat×Nat))
 | []=>some ([],mp)
 | (t,s)::l=>(look t tm).bind fun a=>(PS.take tb mp s a.2).bind fun p=>(vr tm p.2 l).map fun r=>(p.1++r.1,r.2)
def OS.take(mp:List (Nat×Nat)):OS->AO S->Option (List (oE S)×List (Nat×Nat))
 | .box T l, .box T' vs=>match Nat.beq T T' with
   | true=>(CS.takes tb mp l vs).bind fun p=>match p.2.1 with| []=>some (p.1,p.2.2)|_::_=>none
   | false=>none
 | .row e c, .row e' c'=>match Nat.beq e e',decEq c c' with|true,isTrue _=>some ([],mp)|_,_=>none
 | .arr e c full, .arr e' c' full' l=>match Nat.beq e e',decEq c' c,!full||full' with|true,isTrue h,true=>some ([⟨.sl c,uO h l⟩],mp)|_,_,_=>none
 | .loop r st RJ, .loop r' st' tm=>match Nat.beq r r'&&LS.same st st' with|true=>vr tb tm mp RJ|false=>none
 | .map t kc vc, .map t' kc' vc' l none=>match Nat.beq t t',decEq kc' kc,decEq vc' vc with|true,isTrue h,isTrue k=>some ([⟨.mp kc vc,oH h k l⟩],mp)|_,_,_=>none
 | .eT t et kc c, .eT t' et' kc' c' l none=>match Nat.beq t t'&&Nat.beq et et',decEq kc' kc,decEq c' c with|true,isTrue h,isTrue k=>some ([⟨.mp kc (.sl c),E6 h k l⟩],mp)|_,_,_=>none
 | .qY t kc vc q, .qY t' kc' vc' l none q'=>match Nat.beq t t',decEq kc' kc,decEq vc' vc with|true,isTrue h,isTrue k=>(WG mp q q').map fun mp=>([⟨.mp kc vc,oH h k l⟩],mp)|_,_,_=>none
 | .Fa kc o, .Fa kc' o' _=>match decEq kc' kc with|isTrue _=>(WG mp o o').map fun mp=>([],mp)|isFalse _=>none
 | _,_=>none
def OS.takes(ob:List (Nat×Nat×AO S))(mp:List (Nat×Nat)):Nat->List OS->Option (List (oE S)×List (Nat×Nat))
 | _,[]=>some ([],mp)
 | o,s::l=>(look o mp).bind fun q=>(look q ob).bind fun a=>(OS.take tb mp s a.2).bind fun p=>(OS.takes ob p.2 (o+1) l).map fun r=>(p.1++r.1,r.2)
def xL:(ls:List Co)->HT S ls->List (oE S)
 | [],_=>[]
 | [c],x=>[⟨c,x⟩]
 | c::d::cs,x=>⟨c,x.1⟩::xL (d::cs) x.2
def zr:(ls:List Co)->List (oE S)->Option (HT S ls)
 | [],[]=>some ()
 | [c],[⟨c',x⟩]=>match decEq c' c with|isTrue h=>some (h▸x)|isFalse _=>none
 | c::d::cs,⟨c',x⟩::ds=>match decEq c' c with|isTrue h=>(zr (d::cs) ds).map fun y=>(h▸x,y)|isFalse _=>none
 | _,_=>none
def Jo{α:Type}(l:List α):List Nat->Option (List α)
 | []=>some []
 | i::is=>(l[i]?).bind fun x=>(Jo l is).map (x:: ·)
def uR(pm:List Nat)(ds:List (oE S)):Option (List (oE S)):=match pm with
 | []=>some ds
 | _::_=>match Nat.beq ds.length pm.length with|true=>Jo ds pm|false=>none
def Qn:List Nat->List Nat->Bool
 | [],[]=>true
 | x::l,y::l'=>Nat.beq x y&&Qn l l'
 | _,_=>false
def Mx(pm bk:List Nat):Bool:=match pm,bk with
 | [],[]=>true
 | _::_,_::_=>Nat.beq pm.length bk.length&&(match Jo pm bk with|some l=>Qn l (List.range bk.length)|none=>false)
 | _,_=>false
inductive Xa where
 | own (e:TypeId) (c:Co)
 | arr (e:TypeId) (c:Co)
 | UN
structure JA where
 RJ:List (Nat×PS):=[]
 fc:List OS:=[]
 ls:List Co:=[]
 pm:List Nat:=[]
 bk:List Nat:=[]
 fx:List (Nat×Nat):=[]
 gone:List Nat:=[]
 kill:List Nat:=[]
 pre:List (Nat×Nat×Xa):=[]
 early:Bool:=false
 UO:Mx pm bk=true:=by rfl
 FM:(Nat.ble RJ.length 190&&Nat.ble fc.length 190)=true:=by rfl
def has(t:Nat):List Nat->Bool
 | []=>false
 | u::l=>match Nat.beq u t with|true=>true|false=>has t l
def yK(J:JA):List (Nat×Nat×AV S)->List (Nat×Nat×AV S)
 | []=>[]
 | (t,x)::l=>match has t J.kill||J.RJ.any fun p=>Nat.beq p.1 t with|true=>yK J l|false=>(t,x)::yK J l
mutual
def CV.ids:CV S->List Nat
 | .rw o _ _=>[o]
 | .aw o=>[o]
 | .ptr o _=>[o]
 | .M5 o _ _ _ _ _=>[o]
 | .Ss o _ _ _=>[o]
 | .px o _ _ _ _=>[o]
 | .yl o=>[o]
 | .mp o=>[o]
 | .WA o _=>[o]
 | .VE o=>[o]
 | .rz o _ _=>[o]
 | .pt o _ _ _=>[o]
 | .fn _ xs ys=>CV.Kk xs++CV.Kk ys
 | .ag xs=>CV.Kk xs
 | _=>[]
def CV.Kk:List (CV S)->List Nat
 | []=>[]
 | v::vs=>CV.ids v++CV.Kk vs
end
mutual
def AV.ids:AV S->List Nat
 | .one v=>v.ids
 | .agg vs=>CV.Kk vs
 | .m8 vs=>AV.Kk vs
def AV.Kk:List (AV S)->List Nat
 | []=>[]
 | v::vs=>AV.ids v++AV.Kk vs
end
def AO.ids:AO S->List Nat
 | .box _ vs=>CV.Kk vs
 | .qY _ _ _ _ _ q=>[q]
 | .Fa _ o _=>[o]
 | _=>[]
def Ni(xs ys:List Nat):List Nat:=xs.foldl (fun l x=>match has x l with|true=>l|false=>x::l) ys
def TU(ob:List (Nat×Nat×AO S)):Nat->List Nat->List Nat
 | 0,l=>l
 | n+1,l=>TU ob n (l.foldl (fun r x=>match look x ob with|some a=>Ni a.2.ids r|none=>r) l)
def Ha(r:List Nat):List (Nat×Nat×AO S)->List (Nat×Nat×AO S)
 | []=>[]
 | (q,x)::l=>match has q r with|true=>(q,x)::Ha r l|false=>Ha r l
def gy(rm:List Nat):List (Nat×Nat×AO S)->List (Nat×Nat×AO S)
 | []=>[]
 | (q,x)::l=>match has q rm with|true=>gy rm l|false=>(q,x)::gy rm l
def Dl(J:JA)(σ:AS S):List (Nat×Nat×AO S):=
 gy ((J.fx.filter fun r=>Nat.ble (r.1+1) J.fc.length).map (·.2)++J.gone) (Ha (TU σ.ob 4 (Ni σ.rt ((yK J σ.tm).foldl (fun r x=>Ni x.2.2.ids r) []))) σ.ob)
def KY(tm:List (Nat×Nat×AV S)):List (Nat×Nat×AV S)->Bool
 | []=>true
 | (t,x)::l=>(match look t tm with|some y=>Nat.beq x.1 y.1|none=>false)&&KY tm l
def KW(ob:List (Nat×Nat×AO S)):List (Nat×Nat×AO S)->Bool
 | []=>true
 | (t,x)::l=>(match look t ob with|some y=>Nat.beq x.1 y.1|none=>false)&&KW ob l
def EH(mp:List (Nat×Nat)):Nat->Nat->List Nat
 | _,0=>[]
 | o,n+1=>match look o mp with|some q=>q::EH mp (o+1) n|none=>EH mp (o+1) n
def mB:List Nat->Bool
 | []=>true
 | x::l=>match has x l with|true=>false|false=>mB l
def place(σ:AS S)(t i:Nat):Option (CV S):=match look t σ.tm with
 | some (_, .one v)=>(match i with
   | 0=>some v
   | i+1=>match v with| .ptr o _=>(match look o σ.ob with|some (_, .box _ cs)=>cs[i]?|_=>none)|_=>none)
 | some (_, .agg vs)=>(match i with|0=>none|i+1=>vs[i]?)
 | _=>none
def AB(σ:AS S)(t i:Nat)(w:CV S):AS S:=match look t σ.tm with
 | some (cp, .one v)=>(match i with
   | 0=>{σ with tm:=(t,cp, .one w)::drop1 t σ.tm,ct:=σ.ct+64}
   | i+1=>match v with| .ptr o _=>(match look o σ.ob with|some (_, .box T cs)=>{σ with ob:=(o,σ.ct+32, .box T (cs.set i w))::gy [o] σ.ob,ct:=σ.ct+64}|_=>σ)|_=>σ)
 | some (cp, .agg vs)=>(match i with|0=>σ|i+1=>{σ with tm:=(t,cp, .agg (vs.set i w))::drop1 t σ.tm,ct:=σ.ct+64})
 | _=>σ
def Lk(σ:AS S)(q:Nat)(a:AO S):AS S:={σ with ob:=(q,σ.ct+32,a)::σ.ob,ct:=σ.ct+64}
def TK(σ:AS S)(t i:Nat)(k:Xa):Option (AS S):=match place σ t i,k with
 | some .fk, .own e c=>some (Lk (AB {σ with ct:=σ.ct+64} t i (.rw (σ.ct+1) c [])) (σ.ct+1) (.row e c))
 | some .fk, .arr e c=>some (Lk (AB {σ with ct:=σ.ct+64} t i (.aw (σ.ct+1))) (σ.ct+1) (.arr e c true []))
 | some (.aw o), .UN=>(look o σ.ob).bind fun a=>match a.2 with
   | .arr _ c _ l=>(match place {σ with ob:=gy [o] σ.ob} t i with
     | some (.aw o')=>(match Nat.beq o' o with|true=>some (AB {σ with ob:=gy [o] σ.ob} t i (.sl c l))|false=>none)
     | _=>none)
   | _=>none
 | some _,_=>some σ
 | none,_=>none
def EG:List (Nat×Nat×Xa)->AS S->Option (AS S)
 | [],σ=>some σ
 | (t,i,k)::l,σ=>(TK σ t i k).bind (EG l)
def pack(J:JA)(σ0 σ:AS S):Option (HT S J.ls):=(EG J.pre σ).bind fun σ=>
 match KY σ.tm (yK J σ0.tm)&&KW σ.ob (Dl J σ0)&&Nat.beq σ.fb σ0.fb&&(J.fx.all fun r=>(look r.2 σ0.ob).isSome&&Nat.ble r.1 200)&&mB (J.fx.map (·.2))with
 | true=>(vr tb σ.tm J.fx J.RJ).bind fun p=>(OS.takes tb σ.ob p.2 0 J.fc).bind fun q=>
  match mB (EH q.2 0 J.fc.length++(Dl J σ0).map (·.1))with
  | true=>(uR J.pm (p.1++q.1)).bind (zr J.ls)
  | false=>none
 | false=>none
def NU(ids:Nat->Nat)(o v:Nat):List (AO S)->List (Nat×Nat×AO S)
 | []=>[]
 | a::l=>(ids o,v,a)::NU ids (o+1) (v+1) l
def JA.ids(J:JA)(ct o:Nat):Nat:=match look o J.fx with|some q=>q|none=>ct+o
def Mi(v:Nat):List (AO S)->List (Nat×Nat×AO S)
 | []=>[]
 | a::l=>(v,v,a)::Mi (v+1) l
def unpack(J:JA)(σ0:AS S)(z:HT S J.ls):Option (AS S):=
 (uR J.bk (xL J.ls z)).bind fun ds=>
 (A3 tb (J.ids σ0.ct) (σ0.ct+64) J.RJ ds).bind fun p=>
 (OS.kh tb (J.ids σ0.ct) J.fc p.2).bind fun q=>
 some {σ0 with tm:=p.1++yK J σ0.tm,ob:=NU (J.ids σ0.ct) 0 σ0.ct q.1++Dl J σ0,ct:=σ0.ct+256}
inductive KS where
 | kept
 | now (s:OS)
 | gone
structure Out where
 out:PS
 k9:List KS:=[]
 zp:List Co
 pm':List Nat:=[]
 M4:List Nat:=[]
 aaW:Mx pm' M4=true:=by rfl
 FM:Nat.ble k9.length 30=true:=by rfl
variable (S) in
def pF:List Out->Type
 | []=>Empty
 | [o]=>HT S o.zp
 | o::p::os=>HT S o.zp⊕pF (p::os)
def Zu{γ:Type}(k:(o:Out)->HT S o.zp->Option γ):(os:List Out)->pF S os->Option γ
 | [],_=>none
 | [o],y=>k o y
 | o::p::os,y=>@Sum.elim (HT S o.zp) (pF S (p::os)) (Option γ) (k o) (Zu k (p::os)) y
def UZ{γ:Type}(os:List Out)(y:pF S os)(k:(o:Out)->HT S o.zp->Option γ):Option γ:=Zu k os y
def Gr:(os:List Out)->pF S os->((o:Out)->HT S o.zp->Prop)->Prop
 | [],_,_=>False
 | [o],y,p=>p o y
 | o::_::_,Sum.inl z,q=>q o z
 | _::p::os,Sum.inr z,q=>Gr (p::os) z q
variable (S) in
structure dt where
 f:FuncId
 ins:List PS
 fc:List OS:=[]
 ls:List Co
 pm:List Nat:=[]
 bk:List Nat:=[]
 outs:List Out
 UO:Mx pm bk=true:=by rfl
 FM:(Nat.ble fc.length 30&&outs.all fun o=>Nat.ble fc.length o.k9.length)=true:=by rfl
 pB:HT S ls->Option (pF S outs)
variable (S) in
structure NC where
 f:FuncId
 ins:List PS
 fc:List OS:=[]
 ls:List Co
 pm:List Nat:=[]
 bk:List Nat:=[]
 out:Out
 UO:Mx pm bk=true:=by rfl
 FM:(Nat.ble fc.length 30&&Nat.ble fc.length out.k9.length)=true:=by rfl
 Fw:(γ:Type)->(HT S out.zp->Option γ)->HT S ls->Option γ
def NC.ctr(c:NC S):dt S:={f:=c.f,ins:=c.ins,fc:=c.fc,ls:=c.ls,pm:=c.pm,bk:=c.bk,outs:=[c.out],UO:=c.UO,FM:=(by have h:=c.FM;simp only[List.all_cons,List.all_nil,Bool.and_true];exact h),pB:=fun _=>none}
variable (S) in
structure rk where
 v:AV S
 rd:List Nat:=[]
 rm:List Nat:=[]
 add:List (Nat×AO S):=[]
def val(v:CV S):rk S:={v:= .one v}
def OS.outs(ids:Nat->Nat):Nat->List KS->List (oE S)->Option (List (Nat×AO S))
 | _,[],[]=>some []
 | _,[],_::_=>none
 | o, .now s::l,ds=>(OS.fill tb ids s ds).bind fun p=>(OS.outs ids (o+1) l p.2).map fun q=>(ids o,p.1)::q
 | o,_::l,ds=>OS.outs ids (o+1) l ds
def wN(mp:List (Nat×Nat))(ct:Nat)(o:Nat):Nat:=match look o mp with|some q=>q|none=>ct+1+o
def KS.isK:KS->Bool
 | .kept=>true
 | _=>false
def kU(mp:List (Nat×Nat))(k:Bool):Nat->List KS->List Nat
 | _,[]=>[]
 | o,s::l=>match look o mp with
   | some q=>match s.isK == k with|true=>q::kU mp k (o+1) l|false=>kU mp k (o+1) l
   | none=>kU mp k (o+1) l
variable (S) in
structure FA where
 lY:List TypeId:=[]
 lits:List TypeId:=[]
 parts:List TypeId:=[]
 takes:List TypeId:=[]
 pre:List (Nat×Nat×Xa):=[]
 fn:Nat:=0
 rd:Bool:=false
 nd:List (NC S):=[]
 deriving Inhabited
def UK(r:Nat):Nat:=1000000+r
def Vc(b:Bool):Option Unit:=match b with|true=>some ()|false=>none
section
variable {γ:Type}(tt:TypeId->Option (TI S))(Φ:List (dt S))(fa:FA S)
def wO(f:FuncId)(args:List (AV S))(ob:List (Nat×Nat×AO S))(ct:Nat)(k:rk S->Option γ):List (dt S)->Option γ
 | []=>none
 | c::cs=>match Nat.beq c.f f with
   | false=>wO f args ob ct k cs
   | true=>match(PS.takes tb [] c.ins args).bind fun p=>(OS.takes tb ob p.2 0 c.fc).bind fun q=>(uR c.pm (p.1++q.1)).bind fun ds=>(zr c.ls ds).map fun x=>(x,q.2)with
     | none=>wO f args ob ct k cs
     | some (x,mp)=>(c.pB x).bind fun y=>UZ c.outs y fun o z=>
       match(Vc (mp.all fun p=>Nat.ble (p.1+1) c.fc.length)).bind fun _=>(uR o.M4 (xL o.zp z)).bind fun ds=>(PS.fill tb (wN mp ct) o.out ds).bind fun p=>(OS.outs tb (wN mp ct) 0 o.k9 p.2).map fun l=>(p.1,l)with
       | some (v,l)=>k {v:=v,rd:=kU mp true 0 o.k9,rm:=kU mp false 0 o.k9,add:=l}
       | none=>none
def tQ(f:FuncId)(args:List (AV S))(ob:List (Nat×Nat×AO S))(ct:Nat)(k:rk S->Option γ):List (NC S)->Option γ
 | []=>none
 | c::cs=>match Nat.beq c.f f with
   | false=>tQ f args ob ct k cs
   | true=>match(PS.takes tb [] c.ins args).bind fun p=>(OS.takes tb ob p.2 0 c.fc).bind fun q=>(uR c.pm (p.1++q.1)).bind fun ds=>(zr c.ls ds).map fun x=>(x,q.2)with
     | none=>tQ f args ob ct k cs
     | some (x,mp)=>(Vc ((mp.all fun p=>Nat.ble (p.1+1) c.fc.length)&&mB (kU mp true 0 c.out.k9++kU mp false 0 c.out.k9))).bind fun _=>c.Fw γ (fun z=>
       match(uR c.out.M4 (xL c.out.zp z)).bind fun ds=>(PS.fill tb (wN mp ct) c.out.out ds).bind fun p=>(OS.outs tb (wN mp ct) 0 c.out.k9 p.2).map fun l=>(p.1,l)with
       | some (v,l)=>k {v:=v,rd:=kU mp true 0 c.out.k9,rm:=kU mp false 0 c.out.k9,add:=l}
       | none=>none) x
def ZS(o:Oper)(xs:List (AV S)):Option (FuncId×List (AV S)):=match o.op with
 | .call c=>(match c.callee,xs with
   | .value _, .one (.fn (.func f) first caps)::args=>(match(fa.nd.any fun c=>Nat.beq c.f f)&&Nat.ble f 999999 with|true=>some (f,first.map DY++args++caps.map DY)|false=>none)
   | _,_=>none)
 | _=>none
def VX(sq:Bool)(o:Oper)(xs:List (AV S)):Option (FuncId×List (AV S)):=match sq with
 | true=>ZS fa o xs
 | false=>none
def ns(t:TypeId):Option (TypeId×Co):=(tt t).bind fun i=>match i.d,i.co with| .slice e, .sl c=>some (e,c)|_,_=>none
def A8(i:TI S)(vs:Option (List (CV S)))(one:Option (CV S))(rd:List Nat)(k:rk S->Option γ):Option γ:=match mi i.d with
 | true=>vs.bind fun vs=>k {v:= .agg vs,rd:=rd}
 | false=>one.bind fun v=>k {v:= .one v,rd:=rd}
def Ja(t:TypeId)(v:CV S)(ob:List (Nat×Nat×AO S))(k:rk S->Option γ):Option γ:=
 (tt t).bind fun i=>match v with
 | .ptr o off=>(look o ob).bind fun a=>match a.2 with
   | .box _ cs=>A8 i ((cutAt off cs).bind (xK i.size)) (zS off cs) [o] k
   | _=>none
 | .el c x off=>A8 i ((cutAt off (RL tb c x)).bind (xK i.size)) (zS off (RL tb c x)) [] k
 | .M5 o v c x _ off=>(look o ob).bind fun a=>match Nat.beq a.1 v with
   | true=>A8 i ((cutAt off (RL tb c x)).bind (xK i.size)) (zS off (RL tb c x)) [o] k
   | false=>none
 | .Ss o off n j=>(look o ob).bind fun a=>match a.2,mi i.d with
   | .box _ cs,false=>(cutAt off cs).bind fun cs=>match cs with
     | .a8 n' f::_=>match Nat.beq n n' with|true=>k {v:= .one (.u8 (yF f j)),rd:=[o]}|false=>none
     | .ai n' kk f::_=>match Nat.beq n n' with|true=>k {v:= .one (.int kk (yF f j)),rd:=[o]}|false=>none
     | _=>none
   | _,_=>none
 | _=>none
def Cq:Nat->CV S->List (CV S)->Option (List (CV S))
 | _,_,[]=>none
 | 0,x,_::vs=>some (x::vs)
 | o+1,x,v::vs=>match Nat.ble v.n (o+1)with|true=>(Cq (o+1-v.n) x vs).map (v:: ·)|false=>none
def TP(o n:Nat)(xs vs:List (CV S)):Option (List (CV S)):=match Nat.beq (Oj xs) n with
 | true=>(match xs,Nat.beq n 1 with| [x],true=>TM o x vs|xs,_=>Yc o n xs vs)
 | false=>none
def ER(t:TypeId)(p:CV S)(a:AV S)(ob:List (Nat×Nat×AO S))(k:rk S->Option γ):Option γ:=
 (tt t).bind fun i=>(wP a).bind fun xs=>
 match p with
 | .ptr o off=>(look o ob).bind fun b=>match b.2 with
   | .box T cs=>(TP off i.size xs cs).bind fun cs'=>k {v:=AV.sG S,rm:=[o],add:=[(o, .box T cs')]}
   | _=>none
 | .M5 o v c x j off=>(look o ob).bind fun b=>match Nat.beq b.1 v with
   | true=>match b.2 with
     | .arr e c' full l=>(TP off i.size xs (RL tb c x)).bind fun cs'=>(F4 tb c' cs').bind fun u=>
      k {v:=AV.sG S,rm:=[o],add:=[(o, .arr e c' full (l.set j.toNat u))]}
     | _=>none
   | false=>none
 | .Ss o off n j=>(look o ob).bind fun b=>match b.2,Nat.beq i.size 1 with
   | .box T cs,true=>(cutAt off cs).bind fun cs1=>(match cs1,xs with
     | .a8 n' f::_,[.u8 y]=>(match Nat.beq n n' with|true=>Cq off (.a8 n' (AA f j y)) cs|false=>none)
     | .ai n' kk f::_,[.int k' y]=>(match Nat.beq n n',decEq k' kk with|true,isTrue _=>Cq off (.ai n' kk (AA f j y)) cs|_,_=>none)
     | _,_=>none).bind fun cs'=>k {v:=AV.sG S,rm:=[o],add:=[(o, .box T cs')]}
   | _,_=>none
 | _=>none
def idxOf(v:AV S):Option Int:=match v with| .one v=>(num v).map (·.2)|_=>none
def Ey(t:TypeId)(y:Operand)(v:CV S)(i:Int)(ob:List (Nat×Nat×AO S))(k:rk S->Option γ):Option γ:=
 match v with
 | .ptr o off=>(tt t).bind fun ti=>match ti.d with
   | .array n e=>(tt e).bind fun ei=>match Nat.beq ei.size 1 with
     | true=>(match y with
       | .const (.int _ j)=>(match decide (0<=j)&&decide (j<n)with|true=>k (val (.ptr o (off+j.toNat)))|false=>none)
       | _=>(zC (0<=i/\i<n)).bind fun _=>k (val (.Ss o off n i)))
     | false=>none
   | _=>none
 | v=>(ns tt t).bind fun ec=>match v with
   | .aw o=>(look o ob).bind fun a=>match a.2 with
     | .arr _ c' _ l=>(match decEq c' ec.2 with
       | isTrue _=>(idx l i).bind fun x=>k {v:= .one (.M5 o a.1 c' x i 0),rd:=[o]}
       | isFalse _=>none)
     | _=>none
   | v=>(Ww ec.2 v).bind fun l=>(idx l i).bind fun x=>k (val (.el ec.2 x 0))
def yQ:Option Operand->List (AV S)->Option (Option Int×List (AV S))
 | none,vs=>some (none,vs)
 | some _,v::vs=>(idxOf v).map fun i=>(some i,vs)
 | some _,[]=>none
def XH:CV S->Bool
 | .fk=>true
 | _=>false
def XI:Option Int->Option Int->Option Int->Bool
 | none,some _,none=>true
 | _,_,_=>false
def ZC(c:Co)(v:CV S)(l:List (T S c)):CV S:=match v with
 | .rw o d _=>(match decEq d c with|isTrue _=> .rw o c l|isFalse _=> .sl c l)
 | _=> .sl c l
def Cs(t:TypeId)(v:CV S)(lo hi mx:Option Int)(ob:List (Nat×Nat×AO S))(ct:Nat)(k:rk S->Option γ):Option γ:=
 (ns tt t).bind fun ec=>match v with
 | .aw o=>(look o ob).bind fun a=>match a.2,lo,hi,mx with
   | .arr e c _ l,some i,none,none=>(match decEq c ec.2 with
     | isTrue _=>(rM l i).bind fun l'=>k {v:= .one (.aw (ct+1)),rm:=[o],add:=[(ct+1, .arr e c false l')]}
     | isFalse _=>none)
   | .arr e c full l,none,some j,none=>(match decEq c ec.2 with
     | isTrue _=>(uS l j).bind fun l'=>k {v:= .one (.aw (ct+1)),rm:=[o],add:=[(ct+1, .arr e c full l')]}
     | isFalse _=>none)
   | _,_,_,_=>none
 | .rz o c _=>(match lo,hi,mx with
   | none,some j,none=>(match decide (j=0)with|true=>k {v:= .one (.rw o c []),rd:=[o]}|false=>none)
   | _,_,_=>none)
 | v=>match XH v&&XI lo hi mx with
   | true=>(match decide (hi=some 0)with|true=>k (val .fk)|false=>none)
   | false=>(Ww ec.2 v).bind fun l=>match lo,hi,mx with
   | some i,none,none=>(rM l i).bind fun l'=>k (val (ZC ec.2 v l'))
   | none,some j,none=>(uS l j).bind fun l'=>k (val (.sl ec.2 l'))
   | some i,some j,none=>(wg l i j).bind fun l'=>k (val (.sl ec.2 l'))
   | none,some j,some m=>(zC (m=j)).bind fun _=>(uS l j).bind fun l'=>k (val (.Wv ec.2 l'))
   | _,_,_=>none
def AX(t:TypeId)(v w:CV S)(ob:List (Nat×Nat×AO S))(ct:Nat)(k:rk S->Option γ):Option γ:=
 (ns tt t).bind fun ec=>(tt ec.1).bind fun ei=>(Ww ec.2 w).bind fun l'=>match v with
  | .fk=>(app ei.bytes [] l').bind fun l2=>match has t fa.lY with
    | true=>k {v:= .one (.aw (ct+1)),add:=[(ct+1, .arr ec.1 ec.2 true l2)]}
    | false=>k {v:= .one (.rw (ct+1) ec.2 l2),add:=[(ct+1, .row ec.1 ec.2)]}
  | .rw o d l=>(look o ob).bind fun a=>match a.2,decEq d ec.2 with
    | .row e' d',isTrue h=>(match Nat.beq e' ec.1,decEq d' ec.2 with
      | true,isTrue _=>(app ei.bytes (uO h l) l').bind fun l2=>k {v:= .one (.rw (ct+1) ec.2 l2),rm:=[o],add:=[(ct+1, .row ec.1 ec.2)]}
      | _,_=>none)
    | _,_=>none
  | .aw o=>(look o ob).bind fun a=>match a.2 with
    | .arr e' d true l=>(match Nat.beq e' ec.1,decEq d ec.2 with
      | true,isTrue h=>(app ei.bytes (uO h l) l').bind fun l2=>k {v:= .one (.aw (ct+1)),rm:=[o],add:=[(ct+1, .arr ec.1 ec.2 true l2)]}
      | _,_=>none)
    | _=>none
  | .Wv d l=>(match decEq d ec.2 with
    | isTrue h=>(app ei.bytes (uO h l) l').bind fun l2=>k (val (.sl ec.2 l2))
    | isFalse _=>none)
  | _=>none
def Jm(t:TypeId)(v:CV S)(lo hi mx:Option Int)(ob:List (Nat×Nat×AO S))(ct:Nat)(k:rk S->Option γ):Option γ:=match v with
 | .aw o=>(ns tt t).bind fun ec=>(look o ob).bind fun a=>match a.2,lo,hi,mx with
   | .arr _ c _ l,some i,none,none=>(match decEq c ec.2 with
     | isTrue _=>(zC (0<=i/\i<=(l.length:Int))).bind fun _=>k {v:= .one (.pt o ec.2 i ((l.length:Int)-i)),rd:=[o]}
     | isFalse _=>none)
   | .arr _ c _ l,some i,some j,none=>(match decEq c ec.2 with
     | isTrue _=>(zC (0<=i/\i<=j/\j<=(l.length:Int))).bind fun _=>k {v:= .one (.pt o ec.2 i (j-i)),rd:=[o]}
     | isFalse _=>none)
   | _,_,_,_=>none
 | v=>Cs tt t v lo hi mx ob ct k
def Yi(o:Nat)(s:CV S)(l:List UInt8):Option (List UInt8):=match s with
 | .pt o' c off n=>(match Nat.beq o' o,decEq c .u8 with
   | true,isTrue _=>some ((l.drop off.toNat).take n.toNat)
   | _,_=>none)
 | s=>Ww .u8 s
def Bk(t:TypeId)(o off:Nat)(lo hi mx:Option Int)(k:rk S->Option γ):Option γ:=
 (tt t).bind fun ti=>match ti.d,mx with
  | .array n e,none=>(tt e).bind fun ei=>(match Nat.beq ei.size 1 with
    | true=>(zC (0<=lo.getD 0/\lo.getD 0<n/\lo.getD 0<=hi.getD n/\hi.getD n<=n)).bind fun _=>k (val (.px o off n (lo.getD 0) (hi.getD n)))
    | false=>none)
  | _,_=>none
def J4(ec:TypeId×Co)(o off n:Nat)(i j:Int)(s:CV S)(ob:List (Nat×Nat×AO S))(k:rk S->Option γ):Option γ:=match s,ec.2 with
 | .px o' off' n' i' j', .int _=>(match Nat.beq o' o&&(Nat.beq off' off&&Nat.beq n' n)with
   | true=>(look o ob).bind fun a=>(match a.2 with
     | .box T cs=>(cutAt off cs).bind fun cs1=>(match cs1 with
       | .ai n1 kk f::_=>(match Nat.beq n1 n with
         | true=>(Cq off (.ai n kk (Mh f i.toNat i'.toNat (mA (j-i) (j'-i')).toNat)) cs).bind fun cs'=>k {v:= .one (.int .i64 (mA (j-i) (j'-i'))),rm:=[o],add:=[(o, .box T cs')]}
         | false=>none)
       | _=>none)
     | _=>none)
   | false=>none)
 | s, .u8=>(Ww .u8 s).bind fun l=>(look o ob).bind fun a=>(match a.2 with
   | .box T cs=>(cutAt off cs).bind fun cs1=>(match cs1 with
     | .a8 n1 f::_=>(match Nat.beq n1 n with
       | true=>(Cq off (.a8 n (ZB f i.toNat (mA (List.length (α:=UInt8) l:Int) (j-i)).toNat l)) cs).bind fun cs'=>k {v:= .one (.int .i64 (mA (List.length (α:=UInt8) l:Int) (j-i))),rm:=[o],add:=[(o, .box T cs')]}
       | false=>none)
     | _=>none)
   | _=>none)
 | _,_=>none
def Bj(t:TypeId)(o off:Nat)(lo hi mx:Option Int)(ob:List (Nat×Nat×AO S))(k:rk S->Option γ):Option γ:=
 (tt t).bind fun ti=>match ti.d,lo,hi,mx,off with
  | .array n e,none,none,none,0=>(tt e).bind fun ei=>(look o ob).bind fun a=>(match a.2 with
    | .box _ [.a8 n1 f]=>(match Nat.beq n1 n&&(Nat.beq ei.size 1&&(Nat.ble 1 n&&Nat.ble n 4096))with
      | true=>k {v:= .one (.sl .u8 (Gz (α:=UInt8) n f)),rm:=[o]}
      | false=>none)
    | _=>none)
  | _,_,_,_,_=>none
def II(t:TypeId)(d s:CV S)(ob:List (Nat×Nat×AO S))(k:rk S->Option γ):Option γ:=
 (ns tt t).bind fun ec=>match d with
  | .pt o c off n=>(look o ob).bind fun a=>match a.2 with
    | .arr e c' full l=>(match decEq c' .u8,decEq c .u8,decEq ec.2 .u8 with
      | isTrue h,isTrue _,isTrue _=>(Yi o s (uO h l)).bind fun x=>k {v:= .one (.int .i64 (mA (x.length:Int) n)),rm:=[o],add:=[(o, .arr e .u8 full (LC (α:=UInt8) (uO h l) off.toNat (x.take n.toNat)))]}
      | _,_,_=>none)
    | _=>none
  | .px o off n i j=>J4 ec o off n i j s ob k
  | _=>none
def pxL(o off n:Nat)(i j:Int)(ob:List (Nat×Nat×AO S)):Option (List UInt8):=(look o ob).bind fun a=>match a.2 with
 | .box _ cs=>(cutAt off cs).bind fun cs1=>(match cs1 with
   | .a8 n1 f::_=>(match Nat.beq n1 n with|true=>some (((Gz n f).drop i.toNat).take (j-i).toNat)|false=>none)
   | _=>none)
 | _=>none
def xB(t:TypeId)(q:Nat)(d:Co)(l:List (T S d))(o off n:Nat)(i j:Int)(ob:List (Nat×Nat×AO S))(ct:Nat)(k:rk S->Option γ):Option γ:=
 (ns tt t).bind fun ec=>(tt ec.1).bind fun ei=>(look q ob).bind fun a=>match a.2,decEq d .u8,decEq ec.2 .u8 with
  | .row e' d',isTrue h,isTrue _=>(match Nat.beq e' ec.1&&Nat.ble n 4096,decEq d' .u8 with
    | true,isTrue _=>(pxL o off n i j ob).bind fun l'=>(app (α:=UInt8) ei.bytes (uO h l) l').bind fun l2=>k {v:= .one (.rw (ct+1) .u8 l2),rd:=[o],rm:=[q],add:=[(ct+1, .row ec.1 .u8)]}
    | _,_=>none)
  | _,_,_=>none
def Eg(t:TypeId)(v:CV S)(ob:List (Nat×Nat×AO S))(k:rk S->Option γ):Option γ:=
 (ns tt t).bind fun ec=>(tt ec.1).bind fun ei=>(F4 tb ec.2 ei.zero).bind fun z=>match v with
  | .pt o c off n=>(look o ob).bind fun a=>match a.2 with
    | .arr e c' full l=>(match decEq c' ec.2,decEq c ec.2 with
      | isTrue h,isTrue _=>k {v:= .m8 [],rm:=[o],add:=[(o, .arr e ec.2 full (B2 (uO h l) off.toNat n.toNat z))]}
      | _,_=>none)
    | _=>none
  | _=>none
def Hn:Co->Bool
 | .int _=>true
 | .u8=>true
 | .bo=>true
 | _=>false
def xC(t tx:TypeId)(v w:CV S)(ob:List (Nat×Nat×AO S))(ct:Nat)(k:rk S->Option γ):Option γ:=
 (ns tt t).bind fun ec=>(tt ec.1).bind fun ei=>(tt tx).bind fun xi=>match xi.d,v,w with
  | .int .i64, .fk, .int .i64 n=>(zC (0<n/\n*ei.bytes<=140737488355328)).bind fun _=>k {v:= .one (.rz (ct+1) ec.2 n),add:=[(ct+1, .row ec.1 ec.2)]}
  | .int .i64, .rw o d l, .int .i64 n=>(match Hn ec.2,mi ei.d,decEq d ec.2 with
    | true,false,isTrue h=>(look o ob).bind fun a=>(match a.2 with
      | .row e' d'=>(match Nat.beq e' ec.1,decEq d' ec.2 with
        | true,isTrue _=>(F4 tb ec.2 ei.zero).bind fun z=>(zC (0<=n/\n*ei.bytes<=140737488355328)).bind fun _=>(app ei.bytes (uO h l) (List.replicate n.toNat z)).bind fun l2=>k {v:= .one (.rw (ct+1) ec.2 l2),rm:=[o],add:=[(ct+1, .row ec.1 ec.2)]}
        | _,_=>none)
      | _=>none)
    | _,_,_=>none)
  | _,_,_=>none
def QE(t:TypeId)(v:CV S)(ob:List (Nat×Nat×AO S))(k:rk S->Option γ):Option γ:=
 (tt t).bind fun ti=>match ti.d with
 | .slice _=>(match v with
   | .sl _ l=>k (val (.int .i64 (l.length:Int)))
   | .Wv _ l=>k (val (.int .i64 (l.length:Int)))
   | .rw _ _ l=>k (val (.int .i64 (l.length:Int)))
   | .fk=>k (val (.int .i64 0))
   | .aw o=>(look o ob).bind fun a=>match a.2 with
     | .arr _ _ _ l=>k {v:= .one (.int .i64 (l.length:Int)),rd:=[o]}
     | _=>none
   | _=>none)
 | .str=>(match v with| .str l=>k (val (.int .i64 (l.length:Int)))|_=>none)
 | .map _ _=>(match v with
   | .mp o=>(look o ob).bind fun a=>match a.2 with
     | .map _ _ _ l _=>k {v:= .one (.int .i64 (l.length:Int)),rd:=[o]}
     | _=>none
   | _=>none)
 | _=>none
def IG(s d:TypeId)(v:CV S)(ob:List (Nat×Nat×AO S))(k:rk S->Option γ):Option γ:=
 (tt s).bind fun a=>(tt d).bind fun b=>match v,b.d with
 | .int _ x, .int kd=>k (val (WJ kd x))
 | .u8 x, .int .u8=>k (val (.u8 x))
 | .u8 x, .int .i8=>k (val (.int .i8 (IntKind.i8.wrap (x.toNat:Int))))
 | .u8 x, .int kd=>k (val (.int kd (x.toNat:Int)))
 | .str l, .str=>match a.d with| .str=>k (val (.str l))|_=>none
 | v, .str=>match a.d,a.co with
   | .slice e, .sl .u8=>(tt e).bind fun ei=>match ei.d with| .int .u8=>(Ww (S:=S) .u8 v).bind fun l=>k (val (.str l))|_=>none
   | _,_=>none
 | .rw o c (y::l), .slice e=>match Nat.beq s d with
   | true=>(tt e).bind fun ei=>(look o ob).bind fun b=>match ei.d,b.2 with| .int .u8, .row _ _=>k {v:= .one (.sl c (y::l)),rm:=[o]}|_,_=>none
   | false=>none
 | _,_=>none
def uQ:Co->AV S->Option (List (CV S))
 | .st _, .agg vs=>some vs
 | .st _,_=>none
 | _, .one v=>some [v]
 | _,_=>none
def xQ(t:TypeId):Option (Co×Co×TI S):=(tt t).bind fun ti=>match ti.d,ti.co with
 | .map _ e, .mp kc vc=>(tt e).bind fun ei=>(match Dm tb kc&&(PW vc&&!mi ei.d)with|true=>some (kc,vc,ei)|false=>none)
 | _,_=>none
def Kx(vc:Co)(y:Option (T S vc))(z:T S vc)(ok:Bool):AV S:=match ok with
 | true=> .m8 [.one (toCV vc (y.getD z)), .one (Xh y.isSome)]
 | false=> .one (toCV vc (y.getD z))
def Jb(t:TypeId)(v:CV S)(key:AV S)(ok:Bool)(ob:List (Nat×Nat×AO S))(k:rk S->Option γ):Option γ:=
 (xQ tb tt t).bind fun i=>(uQ i.1 key).bind fun cs=>(F4 tb i.1 cs).bind fun x=>(F4 tb i.2.1 i.2.2.zero).bind fun z=>match v with
 | .mp o=>(look o ob).bind fun a=>match a.2 with
   | .map t' kc vc l none=>(match Nat.beq t' t,decEq kc i.1,decEq vc i.2.1 with
     | true,isTrue h,isTrue h'=>k {v:=Kx i.2.1 (dG (oU tb i.1) (oH h h' l) x) z ok,rd:=[o]}
     | _,_,_=>none)
   | .qY t' kc vc l none _=>(match Nat.beq t' t,decEq kc i.1,decEq vc i.2.1 with
     | true,isTrue h,isTrue h'=>k {v:=Kx i.2.1 (dG (oU tb i.1) (oH h h' l) x) z ok,rd:=[o]}
     | _,_,_=>none)
   | _=>none
 | _=>none
def Q6(t:TypeId)(v:CV S)(key w:AV S)(ob:List (Nat×Nat×AO S))(k:rk S->Option γ):Option γ:=
 (xQ tb tt t).bind fun i=>(uQ i.1 key).bind fun cs=>(F4 tb i.1 cs).bind fun x=>(uQ i.2.1 w).bind fun ws=>(F4 tb i.2.1 ws).bind fun y=>match v with
 | .mp o=>(look o ob).bind fun a=>match a.2 with
   | .map t' kc vc l none=>(match Nat.beq t' t,decEq kc i.1,decEq vc i.2.1 with
     | true,isTrue h,isTrue h'=>k {v:=AV.sG S,rm:=[o],add:=[(o, .map t i.1 i.2.1 (kZ (oU tb i.1) (oH h h' l) x y) none)]}
     | _,_,_=>none)
   | .qY t' kc vc l none q=>(match Nat.beq t' t,decEq kc i.1,decEq vc i.2.1 with
     | true,isTrue h,isTrue h'=>(zC ((dG (oU tb i.1) (oH h h' l) x).isSome=true)).bind fun _=>k {v:=AV.sG S,rm:=[o],add:=[(o, .qY t i.1 i.2.1 (kZ (oU tb i.1) (oH h h' l) x y) none q)]}
     | _,_,_=>none)
   | _=>none
 | _=>none
def Qk(t:TypeId)(v:CV S)(key:AV S)(ob:List (Nat×Nat×AO S))(k:rk S->Option γ):Option γ:=
 (xQ tb tt t).bind fun i=>(uQ i.1 key).bind fun cs=>(F4 tb i.1 cs).bind fun x=>match v with
 | .mp o=>(look o ob).bind fun a=>match a.2 with
   | .map t' kc vc l none=>(match Nat.beq t' t,decEq kc i.1,decEq vc i.2.1 with
     | true,isTrue h,isTrue h'=>k {v:= .m8 [],rm:=[o],add:=[(o, .map t i.1 i.2.1 (QM (oU tb i.1) (oH h h' l) x) none)]}
     | _,_,_=>none)
   | _=>none
 | _=>none
def E7{a c:Co}(h:a=c)(x:T S a):T S c:=h▸x
def Jf(t:TypeId)(v:CV S)(key:AV S)(ob:List (Nat×Nat×AO S))(ct:Nat)(k:rk S->Option γ):Option γ:=
 (xQ tb tt t).bind fun i=>(uQ i.1 key).bind fun cs=>(F4 tb i.1 cs).bind fun x=>(F4 tb i.2.1 i.2.2.zero).bind fun z=>match v with
 | .mp o=>(look o ob).bind fun a=>match a.2 with
   | .map t' kc vc l none=>(match Nat.beq t' t,decEq kc i.1,decEq vc i.2.1 with
     | true,isTrue h,isTrue h'=>k {v:= .m8 [.one (toCV i.2.1 ((dG (oU tb i.1) (oH h h' l) x).getD z)), .one (.WA o (ct+1))],rm:=[o],add:=[(o, .map t i.1 i.2.1 (NR (oU tb i.1) (oH h h' l) x z) (some (x,ct+1)))]}
     | _,_,_=>none)
   | .qY t' kc vc l none q=>(match Nat.beq t' t,decEq kc i.1,decEq vc i.2.1 with
     | true,isTrue h,isTrue h'=>(zC ((dG (oU tb i.1) (oH h h' l) x).isSome=true)).bind fun _=>k {v:= .m8 [.one (toCV i.2.1 ((dG (oU tb i.1) (oH h h' l) x).getD z)), .one (.WA o (ct+1))],rm:=[o],add:=[(o, .qY t i.1 i.2.1 (oH h h' l) (some (x,ct+1)) q)]}
     | _,_,_=>none)
   | _=>none
 | _=>none
def Qp(t:TypeId)(v s:CV S)(w:AV S)(ob:List (Nat×Nat×AO S))(k:rk S->Option γ):Option γ:=
 (xQ tb tt t).bind fun i=>(uQ i.2.1 w).bind fun ws=>(F4 tb i.2.1 ws).bind fun y=>match v,s with
 | .mp o, .WA o' q=>(match Nat.beq o o' with
   | true=>(look o ob).bind fun a=>match a.2 with
     | .map t' kc vc l (some (x,q'))=>(match Nat.beq t' t&&Nat.beq q q',decEq kc i.1,decEq vc i.2.1 with
       | true,isTrue h,isTrue h'=>k {v:=AV.sG S,rm:=[o],add:=[(o, .map t i.1 i.2.1 (kZ (oU tb i.1) (oH h h' l) (E7 h x) y) none)]}
       | _,_,_=>none)
     | .qY t' kc vc l (some (x,q')) q0=>(match Nat.beq t' t&&Nat.beq q q',decEq kc i.1,decEq vc i.2.1 with
       | true,isTrue h,isTrue h'=>k {v:=AV.sG S,rm:=[o],add:=[(o, .qY t i.1 i.2.1 (kZ (oU tb i.1) (oH h h' l) (E7 h x) y) none q0)]}
       | _,_,_=>none)
     | _=>none
   | false=>none)
 | _,_=>none
def EI(t:TypeId)(v:CV S)(ob:List (Nat×Nat×AO S))(ct:Nat)(k:rk S->Option γ):Option γ:=
 (xQ tb tt t).bind fun i=>match v with
 | .mp o=>(look o ob).bind fun a=>match a.2 with
   | .map t' kc vc l none=>(match Nat.beq t' t,decEq kc i.1,decEq vc i.2.1 with
     | true,isTrue h,isTrue h'=>k {v:= .one (.VE (ct+1)),rm:=[o],add:=[(o, .qY t i.1 i.2.1 (oH h h' l) none (ct+1)),(ct+1, .Fa i.1 o none)]}
     | _,_,_=>none)
   | _=>none
 | _=>none
def Pd:(c:Co)->T S c->AV S
 | .st i,x=> .agg (RL tb (.st i) x)
 | c,x=> .one (toCV c x)
def Ei(v:CV S)(ob:List (Nat×Nat×AO S))(k:rk S->Option γ):Option γ:=match v with
 | .VE q=>(look q ob).bind fun b=>match b.2 with
   | .Fa kc' o (some (some x))=>(look o ob).bind fun a=>match a.2 with
     | .qY t kc vc l none q'=>(xQ tb tt t).bind fun i=>(F4 tb i.2.1 i.2.2.zero).bind fun z=>(match Nat.beq q' q,decEq kc' i.1,decEq kc i.1,decEq vc i.2.1 with
       | true,isTrue h0,isTrue h,isTrue h'=>k {v:= .m8 [Pd tb i.1 (E7 h0 x), .one (toCV i.2.1 ((dG (oU tb i.1) (oH h h' l) (E7 h0 x)).getD z))],rd:=[q,o]}
       | _,_,_,_=>none)
     | _=>none
   | _=>none
 | _=>none
def XW:List (CV S)->Bool
 | [.fk]=>true
 | _=>false
def yG(t:TypeId):Option (Co×Co×TypeId):=(tt t).bind fun ti=>match ti.d,ti.co with
 | .map _ e, .mp kc (.sl c)=>(tt e).bind fun si=>(ns tt e).bind fun ec=>(match Dm tb kc&&XW si.zero,decEq ec.2 c with|true,isTrue _=>some (kc,c,ec.1)|_,_=>none)
 | _,_=>none
def Ep(t:TypeId)(v:CV S)(key:AV S)(ok:Bool)(ob:List (Nat×Nat×AO S))(k:rk S->Option γ):Option γ:=
 (yG tb tt t).bind fun i=>(uQ i.1 key).bind fun cs=>(F4 tb i.1 cs).bind fun x=>match v,ok with
 | .mp o,false=>(look o ob).bind fun a=>match a.2 with
   | .eT t' _ kc c l none=>(match Nat.beq t' t,decEq kc i.1,decEq c i.2.1 with
     | true,isTrue h,isTrue h'=>k {v:= .one (.sl i.2.1 ((dG (oU tb i.1) (E6 h h' l) x).getD [])),rd:=[o]}
     | _,_,_=>none)
   | _=>none
 | _,_=>none
def Ew(t:TypeId)(v:CV S)(key:AV S)(ok:Bool)(ob:List (Nat×Nat×AO S))(ct:Nat)(k:rk S->Option γ):Option γ:=
 (yG tb tt t).bind fun i=>(uQ i.1 key).bind fun cs=>(F4 tb i.1 cs).bind fun x=>match v,ok with
 | .mp o,false=>(look o ob).bind fun a=>match a.2 with
   | .eT t' et kc c l none=>(match Nat.beq t' t&&Nat.beq et i.2.2,decEq kc i.1,decEq c i.2.1 with
     | true,isTrue h,isTrue h'=>k {v:= .one (.rw (ct+1) i.2.1 ((dG (oU tb i.1) (E6 h h' l) x).getD [])),rm:=[o],add:=[(o, .eT t i.2.2 i.1 i.2.1 (E6 h h' l) (some x)),(ct+1, .row i.2.2 i.2.1)]}
     | _,_,_=>none)
   | _=>none
 | _,_=>none
def O4{α:Type}(eq:α->α->Bool)(x:α)(h:Option α)(k:Option γ):Option γ:=match h with
 | none=>k
 | some y=>(zC (eq x y=true)).bind fun _=>k
def WU{a c:Co}(h:a=c)(x:Option (T S a)):Option (T S c):=h▸x
def IX(t:TypeId)(v:CV S)(key:AV S)(w:CV S)(ob:List (Nat×Nat×AO S))(k:rk S->Option γ):Option γ:=
 (yG tb tt t).bind fun i=>(uQ i.1 key).bind fun cs=>(F4 tb i.1 cs).bind fun x=>match v,w with
 | .mp o, .rw p d l2=>(look o ob).bind fun a=>(look p ob).bind fun b=>match a.2,b.2 with
   | .eT t' et kc c l hole, .row et' c'=>(match Nat.beq t' t&&(Nat.beq et i.2.2&&Nat.beq et' i.2.2),decEq kc i.1,decEq c i.2.1,decEq c' i.2.1,decEq d i.2.1 with
     | true,isTrue h,isTrue h',isTrue _,isTrue hd=>O4 (oU tb i.1) x (WU h hole) (k {v:=AV.sG S,rm:=[o,p],add:=[(o, .eT t i.2.2 i.1 i.2.1 (kZ (oU tb i.1) (E6 h h' l) x (uO hd l2)) none)]})
     | _,_,_,_,_=>none)
   | _,_=>none
 | _,_=>none
def Tp:List (CV S)->Bool
 | [.dy]=>true
 | _=>false
def EB(t:TypeId):Option Co:=(tt t).bind fun ti=>match ti.d,ti.co with
 | .map _ e, .mp kc (.a8 _)=>(tt e).bind fun fi=>(match Dm tb kc&&(Tp fi.zero&&!mi fi.d)with|true=>some kc|false=>none)
 | _,_=>none
def LA{a c:Co}(h:a=c)(l:List (T S a×CV S)):List (T S c×CV S):=h▸l
def XG:CV S->Bool
 | .fn _ _ _=>true
 | _=>false
def Hd(t:TypeId)(v:CV S)(key:AV S)(w:AV S)(ob:List (Nat×Nat×AO S))(k:rk S->Option γ):Option γ:=
 (EB tb tt t).bind fun i=>(uQ i key).bind fun cs=>(F4 tb i cs).bind fun x=>match v,w with
 | .mp o, .one f=>(look o ob).bind fun a=>match a.2 with
   | .H8 t' kc l=>(match Nat.beq t' t&&XG f,decEq kc i with
     | true,isTrue h=>(match(LA h l).any fun p=>oU tb i x p.1 with
       | true=>none
       | false=>k {v:=AV.sG S,rm:=[o],add:=[(o, .H8 t i (LA h l++[(x,f)]))]})
     | _,_=>none)
   | _=>none
 | _,_=>none
def Hc(o:Nat)(c:Co)(x:T S c)(k:rk S->Option γ):List (T S c×CV S)->Option γ
 | []=>k {v:= .one .dy,rd:=[o]}
 | p::l=>@ite _ (oU tb c x p.1=true) inferInstance (k {v:= .one p.2,rd:=[o]}) (Hc o c x k l)
def EA(t:TypeId)(v:CV S)(key:AV S)(ok:Bool)(ob:List (Nat×Nat×AO S))(k:rk S->Option γ):Option γ:=
 (EB tb tt t).bind fun i=>(uQ i key).bind fun cs=>(F4 tb i cs).bind fun x=>match v,ok with
 | .mp o,false=>(look o ob).bind fun a=>match a.2 with
   | .H8 t' kc l=>(match Nat.beq t' t,decEq kc i with
     | true,isTrue h=>Hc tb o i x k (LA h l)
     | _,_=>none)
   | _=>none
 | _,_=>none
def Am:List (AV S)->Option (List (CV S))
 | []=>some []
 | .one v::l=>(Am l).map (v:: ·)
 | .agg vs::l=>(Am l).map (.ag vs:: ·)
 | _::_=>none
def qn(place:Nat->Option (Nat×Nat)):List (CV S)->List (Nat×AV S)->Option (List (CV S))
 | cs,[]=>some cs
 | cs,(i,a)::l=>(place i).bind fun p=>(wP a).bind fun xs=>(TP p.1 p.2 xs cs).bind fun cs'=>qn place cs' l
def ly(c:Co):List (Nat×AV S)->Option (List (T S c))
 | []=>some []
 | (_,a)::l=>(wP a).bind fun xs=>(F4 tb c xs).bind fun x=>(ly c l).map (x:: ·)
def G2:Nat->List (Nat×AV S)->Bool
 | _,[]=>true
 | i,(j,_)::l=>Nat.beq i j&&G2 (i+1) l
def Ck(f:TypeId×Nat×Nat)(v:CV S)(k:rk S->Option γ):Option γ:=match Nat.ble 1 f.2.2,v with
 | true, .ptr o off=>k (val (.ptr o (off+f.2.1)))
 | true, .el c x off=>k (val (.el c x (off+f.2.1)))
 | true, .M5 o v c x j off=>k (val (.M5 o v c x j (off+f.2.1)))
 | _,_=>none
def Zf(op:UnOp)(v:CV S)(k:rk S->Option γ):Option γ:=match op,v with
 | .not, .tt b=>k (val (.tt !b))
 | .not, .bo b _ _ _=>k (val (U9 b))
 | .not, .na e n=>k (val (.na e (!n)))
 | .neg, .int kk x=>k (val (.int kk (kk.wrap (-x))))
 | .xor, .int kk x=>k (val (.int kk (xD kk (if kk.signed then -1 else kk.max) x)))
 | _,_=>none
def KX:Operand->Operand->Bool
 | .tmp a, .tmp b=>Nat.beq a b
 | .const (.int k n), .const (.int k' n')=>decide (k=k')&&decide (n=n')
 | _,_=>false
def core(o:Oper)(xs:List (AV S))(ob:List (Nat×Nat×AO S))(ct:Nat)(k:rk S->Option γ):Option γ:=
 match o.op with
 | .move _=>match xs with| [a]=>k {v:=a}|_=>none
 | .assign _=>match xs with| [a]=>k {v:=a}|_=>none
 | .pick _ _ _=>match xs with| [.one c,a,b]=>XC c (fun z=>match z with|true=>k {v:=a}|false=>k {v:=b})|_=>none
 | .extract _ i=>match xs with| [.m8 vs]=>(vs[i]?).bind fun a=>k {v:=a}|_=>none
 | .nilCheck _=>match xs with| [.one v]=>(match v with| .ptr _ _=>k (val v)| .fn (.func _) _ _=>k (val v)| .el _ _ _=>k (val v)| .M5 _ _ _ _ _ _=>k (val v)|_=>none)|_=>none
 | .binOp op t _ y _=>match xs with| [a,b]=>Qc tt op t y a b fun v=>k (val v)|_=>none
 | .unOp op _ _=>match xs with
   | [.one v]=>Zf op v k
   | _=>none
 | .convert s d _=>match xs with| [.one v]=>IG tt s d v ob k|_=>none
 | .fieldAddr t _ i=>match xs with
   | [.one v]=>(tt t).bind fun ti=>match ti.d with
     | .struct fs=>(fs[i]?).bind fun(f:TypeId×Nat×Nat)=>Ck f v k
     | _=>none
   | _=>none
 | .field t _ i=>match xs with
   | [.agg vs]=>(tt t).bind fun ti=>match ti.d with
     | .struct fs=>(fs[i]?).bind fun(f:TypeId×Nat×Nat)=>(tt f.1).bind fun fi=>(match mi fi.d with
       | true=>((cutAt f.2.1 vs).bind (xK fi.size)).bind fun l=>k {v:= .agg l}
       | false=>(zS f.2.1 vs).bind fun v=>k (val v))
     | _=>none
   | _=>none
 | .build t parts=>(tt t).bind fun ti=>(match ti.d with
  | .struct fs=>qn (fun i=>(fs[i]?).map fun(f:TypeId×Nat×Nat)=>f.2) ti.zero ((parts.toList.map Prod.fst).zip xs)
  | .array _ e=>(tt e).bind fun ei=>qn (fun i=>some (i*ei.size,ei.size)) ti.zero ((parts.toList.map Prod.fst).zip xs)
  | _=>none).bind fun cs=>k {v:= .agg cs}
 | .makeFunc f first _=>(Am xs).bind fun vs=>k (val (.fn f (vs.take first.size) (vs.drop first.size)))
 | .alloc t=>(tt t).bind fun ti=>k {v:= .one (.ptr (ct+1) 0),add:=[(ct+1, .box t ti.zero)]}
 | .box t _=>match xs with| [a]=>(wP a).bind fun cs=>k {v:= .one (.ptr (ct+1) 0),add:=[(ct+1, .box t cs)]}|_=>none
 | .load t _=>match xs with| [.one v]=>Ja tb tt t v ob k|_=>none
 | .store t _ _=>match xs with| [.one p,a]=>ER tb tt t p a ob k|_=>none
 | .indexAddr t _ y=>match xs with| [.one v,i]=>(idxOf i).bind fun i=>Ey tt t y v i ob k|_=>none
 | .index t _ _=>(tt t).bind fun ti=>match ti.d,xs with
   | .str,[.one (.str l),i]=>(idxOf i).bind fun i=>(idx l i).bind fun c=>k (val (.u8 c))
   | .array n e,[.agg [.ai n' kk f],i]=>(tt e).bind fun ei=>(idxOf i).bind fun i=>(match Nat.beq n' n,Nat.beq ei.size 1,mi ei.d with
     | true,true,false=>(zC (0<=i/\i<n)).bind fun _=>k (val (.int kk (yF f i)))
     | _,_,_=>none)
   | _,_=>none
 | .slice t _ lo hi mx=>match xs with
   | .one v::r=>(yQ lo r).bind fun a=>(yQ hi a.2).bind fun b=>(yQ mx b.2).bind fun c=>match v with| .ptr o off=>(match has t fa.parts with|true=>Bj tt t o off a.1 b.1 c.1 ob k|false=>Bk tt t o off a.1 b.1 c.1 k)|v=>(match has t fa.parts&&a.1.isSome with|true=>Jm tt t v a.1 b.1 c.1 ob ct k|false=>Cs tt t v a.1 b.1 c.1 ob ct k)
   | _=>none
 | .buildSlice t len parts=>(ns tt t).bind fun ec=>(tt ec.1).bind fun ei=>
  let ps:=(parts.toList.map Prod.fst).zip xs
  match Nat.beq len xs.length&&G2 0 ps&&Nat.ble (len*ei.size) 16777216 with
  | true=>(ly tb ec.2 ps).bind fun l=>match has t fa.lits||(Nat.beq len 0&&has t fa.lY)with
    | true=>k {v:= .one (.aw (ct+1)),add:=[(ct+1, .arr ec.1 ec.2 true l)]}
    | false=>k {v:= .one (.rw (ct+1) ec.2 l),add:=[(ct+1, .row ec.1 ec.2)]}
  | false=>none
 | .makeMap t r=>match r,xs with
   | none,[]=>(match xQ tb tt t with
     | some i=>k {v:= .one (.mp (ct+1)),add:=[(ct+1, .map t i.1 i.2.1 [] none)]}
     | none=>(match yG tb tt t with
       | some i=>k {v:= .one (.mp (ct+1)),add:=[(ct+1, .eT t i.2.2 i.1 i.2.1 [] none)]}
       | none=>(EB tb tt t).bind fun i=>k {v:= .one (.mp (ct+1)),add:=[(ct+1, .H8 t i [])]}))
   | _,_=>none
 | .lookup t _ _ ok=>match xs with| [.one v,key]=>(match(xQ tb tt t).isSome,(yG tb tt t).isSome with|true,_=>Jb tb tt t v key ok ob k|false,true=>(match has t fa.takes with|true=>Ew tb tt t v key ok ob ct k|false=>Ep tb tt t v key ok ob k)|false,false=>EA tb tt t v key ok ob k)|_=>none
 | .mapEntry t _ _=>match xs with| [.one v,key]=>Jf tb tt t v key ob ct k|_=>none
 | .entryStore t _ _ _=>match xs with| [.one v, .one s,w]=>Qp tb tt t v s w ob k|_=>none
 | .mapUpdate t _ _ _=>match xs with| [.one v,key,w]=>(match(xQ tb tt t).isSome,(yG tb tt t).isSome with|true,_=>Q6 tb tt t v key w ob k|false,true=>(match w with| .one w=>IX tb tt t v key w ob k|_=>none)|false,false=>Hd tb tt t v key w ob k)|_=>none
 | .range t _=>match xs with| [.one v]=>EI tb tt t v ob ct k|_=>none
 | .entry _=>match xs with| [.one v]=>Ei tb tt v ob k|_=>none
 | .makeSlice t x y=>match xs,KX x y with
   | [a,_],true=>(idxOf a).bind fun n=>(ns tt t).bind fun ec=>(tt ec.1).bind fun ei=>(match Hn ec.2,mi ei.d with
     | true,false=>(F4 tb ec.2 ei.zero).bind fun z=>(zC (0<=n/\n*ei.bytes<=140737488355328)).bind fun _=>
      k {v:= .one (.aw (ct+1)),add:=[(ct+1, .arr ec.1 ec.2 true (List.replicate n.toNat z))]}
     | _,_=>none)
   | _,_=>none
 | .call c=>match c.callee with
   | .builtin b=>match b,xs with
     | .len,[.one v]=>(match c.argTypes.toList with| [t]=>QE tt t v ob k|_=>none)
     | .append,[.one v, .one w]=>(match c.argTypes.toList with| [t,t']=>(match Nat.beq t t' with|true=>(match v,w with| .rw q d l, .px o off n i j=>xB tt t q d l o off n i j ob ct k|v,w=>AX tt fa t v w ob ct k)|false=>xC tb tt t t' v w ob ct k)|_=>none)
     | .copy,[.one v, .one w]=>(match c.argTypes.toList with| [t,_]=>II tt t v w ob k|_=>none)
     | .clear,[.one v]=>(match c.argTypes.toList with| [t]=>Eg tb tt t v ob k|_=>none)
     | .delete,[.one v,key]=>(match c.argTypes.toList with| [t,_]=>Qk tb tt t v key ob k|_=>none)
     | .cap,[.one .fk]=>(match c.argTypes.toList with| [t]=>(ns tt t).bind fun _=>k (val (.int .i64 0))|_=>none)
     | .min,[.one v, .one w]=>(num v).bind fun x=>(num w).bind fun y=>match decEq x.1 y.1 with|isTrue _=>k (val (M6 x.1 (mA x.2 y.2)))|isFalse _=>none
     | .max,[.one v, .one w]=>(num v).bind fun x=>(num w).bind fun y=>match decEq x.1 y.1 with|isTrue _=>k (val (M6 x.1 (imax x.2 y.2)))|isFalse _=>none
     | _,_=>none
   | .value _=>match xs with
     | .one (.fn (.func f) first caps)::args=>(match Nat.ble f 999999 with|true=>wO tb f (first.map DY++args++caps.map DY) ob ct k Φ|false=>none)
     | .one (.yl q)::args=>(look q ob).bind fun a=>match a.2 with| .loop r .ready _=>wO tb (UK r) (.one (.yl q)::args) ob ct k Φ|_=>none
     | _=>none
   | .invoke _ _=>none
 | .insert t _ _ _=>match xs with| [.one v,key,w]=>Hd tb tt t v key w ob k|_=>none
 | _=>none
end
def AU:CV S->List Value
 | .int k x=>[.int k x]
 | .u8 x=>[.int .u8 (x.toNat:Int)]
 | .tt b=>[.bool b]
 | .str l=>[.string (Proofs.YtekpafdhgkocaaaGreat.str l)]
 | .fk=>[.slice none 0 0]
 | .km=>[.pointer none]
 | .dy=>[.nilFunc]
 | .uI=>[.map none]
 | .Cp=>[.nilIface]
 | .a8 n f=>(List.range n).map (fun i=> .int .u8 ((f i).toNat:Int))
 | .ai n k f=>(List.range n).map (fun i=> .int k (f i))
 | _=>[]
def qb(vs:List (CV S)):List Value:=vs.flatMap AU
def eqV:Value->Value->Bool
 | .int k n, .int k' n'=>decide (k=k')&&decide (n=n')
 | .bool b, .bool b'=>b == b'
 | .slice none 0 0, .slice none 0 0=>true
 | .pointer none, .pointer none=>true
 | .nilFunc, .nilFunc=>true
 | .map none, .map none=>true
 | .nilIface, .nilIface=>true
 | .string s, .string s'=>decide (s.data.toList=s'.data.toList)
 | _,_=>false
def Qo:List Value->List Value->Bool
 | [],[]=>true
 | v::vs,w::ws=>match eqV v w with|true=>Qo vs ws|false=>false
 | _,_=>false
def FI:Value->Option (CV S)
 | .int .u8 n=>match decEq (n % 256) n with|isTrue _=>some (.u8 (G.u8 n))|isFalse _=>none
 | .int k n=>some (.int k n)
 | .bool b=>some (.tt b)
 | .string s=>some (.str s.data.toList)
 | .slice none 0 0=>some .fk
 | .pointer none=>some .km
 | .nilFunc=>some .dy
 | .map none=>some .uI
 | .nilIface=>some .Cp
 | _=>none
def xI:List Value->Option (List (CV S))
 | []=>some []
 | v::vs=>(FI v).bind fun x=>(xI vs).map (x:: ·)
def J3(tt:TypeId->Option (TI S))(t:TypeId):Value->Option (AV S)
 | .agg cs=>match tt t with
   | some i=>(match Qo (qb i.zero) cs.toList with|true=>some (.agg i.zero)|false=>(xI cs.toList).map .agg)
   | none=>(xI cs.toList).map .agg
 | .tuple vs=>match vs.toList with| []=>some (AV.sG S)|_=>none
 | v=>(FI v).map .one
def Mu(o:Oper):List TypeId:=match o.op with
 | .move _=>[o.type]
 | .assign _=>[o.type]
 | .store t _ _=>[0,t]
 | .binOp _ t _ _ _=>[t,t]
 | .call c=>match c.callee with| .builtin _=>c.argTypes.toList|_=>0::c.argTypes.toList
 | _=>[]
def AS.get(σ:AS S)(t:Tmp):Option (Nat×AV S):=look (σ.fb+t) σ.tm
def wZ(tt:TypeId->Option (TI S))(σ:AS S)(t:TypeId):Operand->Option (AV S)
 | .tmp u=>(σ.get u).map (·.2)
 | .const v=>J3 tt t v
 | .func f=>some (.one (.fn (.func f) [] []))
 | .global _=>none
def xV(tt:TypeId->Option (TI S))(σ:AS S):List TypeId->List Operand->Option (List (AV S))
 | _,[]=>some []
 | [],x::xs=>(wZ tt σ 0 x).bind fun a=>(xV tt σ [] xs).map (a:: ·)
 | t::ts,x::xs=>(wZ tt σ t x).bind fun a=>(xV tt σ ts xs).map (a:: ·)
def ML(cp:Nat)(b:Bool):List (Nat×Nat×AV S)->List (Nat×Nat×AV S)
 | []=>[]
 | (t,v,a)::l=>match Nat.beq v cp with|true=>(t,v, .one (.tt b))::ML cp b l|false=>(t,v,a)::ML cp b l
def AS.pE(σ:AS S)(cp:Nat)(b:Bool):AS S:={σ with tm:=ML cp b σ.tm}
def AS.put(σ:AS S)(d:Option Tmp)(cp:Option Nat)(v:AV S):AS S:=match d with
 | some d=>{σ with tm:=(σ.fb+d,cp.getD σ.ct,v)::drop1 (σ.fb+d) σ.tm}
 | none=>σ
def Bp(v:Nat):List (Nat×AO S)->List (Nat×Nat×AO S)
 | []=>[]
 | (q,a)::l=>(q,v,a)::Bp (v+1) l
def AS.Ir(σ:AS S)(d:Option Tmp)(cp:Option Nat)(r:rk S):AS S:=
 {σ.put d cp r.v with ob:=Bp (σ.ct+32) r.add++gy r.rm σ.ob,ct:=σ.ct+64}
def uH(σ:AS S):Op->Option Nat
 | .move (.tmp t)=>(σ.get t).map (·.1)
 | .assign (.tmp t)=>(σ.get t).map (·.1)
 | _=>none
abbrev Log:=List (Nat×List Nat×List Nat)
def Dp(ops:Array Oper):Log->Bool
 | []=>true
 | (j,rd,rm)::l=>(l.all fun p=>D.RH ops p.1 j||!(rm.any (fun x=>has x p.2.1||has x p.2.2)||rd.any fun x=>has x p.2.2))&&Dp ops l
section
variable {γ:Type}(tt:TypeId->Option (TI S))(Φ:List (dt S))(fa:FA S)
def z7(ops:Array Oper)(g:Option (Nat×Bool))(σ:AS S)(go:Bool->AS S->Option γ):Option γ:=match g with
 | none=>go true σ
 | some (j,b)=>match(zf ops j).bind σ.get with
   | some (cp, .one v)=>(match v with
     | .tt c=>go (c == b) σ
     | .bo _ p d _=>@ite _ p d (go b (σ.pE cp true)) (go (!b) (σ.pE cp false))
     | _=>none)
   | some (_, .m8 [])=>go false σ
   | _=>none
def wS(sq:Bool)(ops:Array Oper):List Oper->Nat->AS S->Log->(AS S->Log->Option γ)->Option γ
 | [],_,σ,lg,k=>k σ lg
 | o::rest,i,σ,lg,k=>z7 ops o.guard σ fun run σ=>match run with
   | false=>wS sq ops rest (i+1) {σ.put o.dst none (AV.sG S)with ct:=σ.ct+64} lg k
   | true=>match xV tt σ (Mu o) o.op.operands.toList with
     | some xs=>match VX fa sq o xs with
       | none=>core tb tt Φ fa o xs σ.ob σ.ct fun r=>match mB (r.rd++r.rm)with
         | true=>wS sq ops rest (i+1) (σ.Ir o.dst (uH σ o.op) r) ((i,r.rd,r.rm++r.add.map (·.1))::lg) k
         | false=>none
       | some fx=>tQ tb fx.1 fx.2 σ.ob σ.ct (fun r=>wS sq ops rest (i+1) (σ.Ir o.dst none r) lg k) fa.nd
     | none=>none
end
inductive An where
 | o
 | u (a:An)
 | b (l r:An)
 | j (J:JA) (a:An)
 | lp (J:JA) (a:An)
 | mr (J:JA) (q:Nat) (a:An)
 | z (l:List (Nat×Nat×Xa)) (a:An)
 deriving Inhabited
def An.l1:An->An
 | .u a=>a
 | .b l _=>l
 | _=> .o
def An.r1:An->An
 | .b _ r=>r
 | _=> .o
variable (S) in
def Kp(β:Type):=∀ γ:Type,(β->γ)->RD->AS S->Option γ
variable (S) in
def W:=An->AS S->(β:Type)->Kp S β->(γ:Type)->(β->γ)->Option γ
def vw:Code->List Nat
 | .seq x y=>vw x++vw y
 | .cond _ x y=>vw x++vw y
 | .block _ x=>vw x
 | .scope x=>vw x
 | .loop x=>vw x
 | .region _ ops _=>ops.toList.filterMap (·.dst)
 | .rangeFunc _ ps x y=>ps.toList++(vw x++vw y)
 | _=>[]
def JA.at_(J:JA)(c:Code)(fb:Nat):JA:={J with kill:=(vw c).map (fb+ ·)++J.kill}
def kN(J:JA)(σ:AS S):Kp S (HT S J.ls):=fun _ e ex σ'=>match ex with
 | .normal=>(pack tb J σ σ').bind fun z=>some (e z)
 | _=>none
def kJ(J:JA)(σ:AS S){β γ:Type}(κ:Kp S β)(emb:β->γ):Kp S (HT S J.ls⊕γ):=fun δ e ex σ'=>match ex with
 | .normal=>(pack tb J σ σ').bind fun z=>some (e (.inl z))
 | ex=>κ δ (fun b=>e (.inr (emb b))) ex σ'
def kS{β:Type}(f:W S)(an:An)(κ:Kp S β):Kp S β:=fun δ e ex σ'=>match ex with
 | .normal=>f an σ' β κ δ e
 | ex=>κ δ e ex σ'
def kB{β:Type}(id:Nat)(κ:Kp S β):Kp S β:=fun δ e ex σ'=>match ex with
 | .exit n=>match Nat.beq n id with|true=>κ δ e .normal σ'|false=>κ δ e (.exit n) σ'
 | ex=>κ δ e ex σ'
def Zh(c:Code)(f:W S):W S:=fun an σ β κ γ emb=>match an with
 | .j J a=>match J.early with
   | false=>(f a σ (HT S J.ls) (kN tb (J.at_ c σ.fb) σ) (HT S J.ls) id).bind fun z=>
    match unpack tb (J.at_ c σ.fb) σ z with|some σ1=>κ γ emb .normal σ1|none=>none
   | true=>(f a σ (HT S J.ls⊕γ) (kJ tb (J.at_ c σ.fb) σ κ emb) (HT S J.ls⊕γ) id).bind fun z=>
    qO z fun u=>match unpack tb (J.at_ c σ.fb) σ u with|some σ1=>κ γ emb .normal σ1|none=>none
 | a=>f a σ β κ γ emb
def wj(c:Code)(f:W S):W S:=fun an σ β κ γ emb=>match an with
 | .z l a=>match EG l σ with|some σ1=>Zh tb c f a σ1 β κ γ emb|none=>none
 | an=>Zh tb c f an σ β κ γ emb
def yZ:Code->Nat
 | .region id _ _=>id
 | .seq x _=>yZ x
 | _=>0
def ue(σ:AS S)(lp:AO S):AS S:={σ with ob:=(σ.ct+1,σ.ct+32,lp)::σ.ob,ct:=σ.ct+64}
def ru(q:Nat)(σ2:AS S){β γ:Type}(κ:Kp S β)(emb:β->γ):Option γ:=
 match look q σ2.ob with
 | some (_, .loop _ st _)=>(match st with
   | .ready=>κ γ emb .normal {σ2 with ob:=gy [q] σ2.ob}
   | .done .ret=>κ γ emb .ret {σ2 with ob:=gy [q] σ2.ob}
   | .done (.exit n)=>κ γ emb (.exit n) {σ2 with ob:=gy [q] σ2.ob}
   | _=>none)
 | _=>none
def hd2(ops:Array Oper):Option (Nat×Nat×Nat):=match ops.toList with
 | [a,b]=>match a.op,a.dst,a.guard,b.op,b.dst,b.guard with
   | .next (.tmp it) false,some nx,none, .extract (.tmp nx') 0,some c,none=>(match Nat.beq nx nx' with|true=>some (it,nx,c)|false=>none)
   | _,_,_,_,_,_=>none
 | _=>none
def OQ(t:Nat)(l:List (Nat×Nat×AV S)):List (Nat×Nat×AV S):=l.filter fun p=>!Nat.beq p.1 t
def AS.fu(σ:AS S)(t:Nat):AS S:={σ with tm:=OQ (σ.fb+t) σ.tm}
def NT(q it:Nat)(σ:AS S):Bool:=match σ.get it,look q σ.ob with
 | some (_, .one (.VE q')),some (_, .Fa kc o _)=>(match look o σ.ob with
   | some (_, .qY _ kc' _ _ none q2)=>Nat.beq q' q&&(Nat.beq q2 q&&match decEq kc' kc with|isTrue _=>true|isFalse _=>false)
   | _=>false)
 | _,_=>false
def QP(q it nx c:Nat){kc:Co}(x:T S kc)(σ:AS S):Option (AS S):=match look q σ.ob with
 | some (_, .Fa kc' o _)=>(match decEq kc kc',NT q it σ with
   | isTrue h,true=>some (Lk {(σ.fu nx).fu c with ob:=gy [q] σ.ob} q (.Fa kc' o (some (some (E7 h x)))))
   | _,_=>none)
 | _=>none
def Ji(q it nx c:Nat)(σ:AS S):Option (AS S):=match look q σ.ob with
 | some (_, .Fa _ o _)=>(match look o σ.ob,NT q it σ with
   | some (_, .qY t kc vc l none _),true=>some (Lk {((σ.fu nx).fu c).fu it with ob:=gy [o] (gy [q] σ.ob)} o (.map t kc vc l none))
   | _,_=>none)
 | _=>none
def kM(q ver:Nat)(J:JA)(σ:AS S){β γ:Type}(κ:Kp S β)(emb:β->γ):Kp S (HT S J.ls⊕γ):=fun δ e ex σ'=>match ex with
 | .normal=>(match look q σ'.ob with
   | some (v,_)=>(match Nat.beq v ver with|true=>(pack tb J σ σ').bind fun z=>some (e (.inl z))|false=>none)
   | none=>none)
 | ex=>κ δ (fun b=>e (.inr (emb b))) ex σ'
def SU{kc kc' vc:Co}(h:kc'=kc)(l:List (T S kc'×T S vc)):List (T S kc):=h▸l.map (·.1)
noncomputable def VU(J:JA)(q:Nat)(σ:AS S)(it nx c out:Nat)(f:AS S->(β:Type)->Kp S β->(γ:Type)->(β->γ)->Option γ){β γ:Type}(κ:Kp S β)(emb:β->γ):Option γ:=match look q σ.ob with
 | some (_, .Fa kc o none)=>(match look o σ.ob with
   | some (_, .qY _ kc1 _ l none q1)=>(match decEq kc1 kc,Nat.beq q1 q with
     | isTrue h,true=>(pack tb J σ σ).bind fun z0=>xz (fun p:List (T S kc)=>p.Perm (SU h l)) fun p=>n5
      (fun x z=>match unpack tb J σ z with
       | some σ1=>(match QP q it nx c x σ1 with
         | some σ2=>f σ2 (HT S J.ls⊕γ) (kM tb q (σ1.ct+32) J σ κ emb) (HT S J.ls⊕γ) id
         | none=>none)
       | none=>none)
      (fun z=>match unpack tb J σ z with
       | some σ1=>(match Ji q it nx c σ1 with
         | some σ2=>κ γ emb (.exit out) σ2
         | none=>none)
       | none=>none) p z0
     | _,_=>none)
   | _=>none)
 | _=>none
section
variable (tt:TypeId->Option (TI S))(Φ:List (dt S))(fa:FA S)
noncomputable def Db:Code->W S
 | .skip=>wj tb (.skip) fun _ σ _ κ γ emb=>κ γ emb .normal σ
 | .label _=>wj tb (.label default) fun _ σ _ κ γ emb=>κ γ emb .normal σ
 | .ret=>wj tb (.ret) fun _ σ _ κ γ emb=>κ γ emb .ret σ
 | .exit n=>wj tb (.exit n) fun _ σ _ κ γ emb=>κ γ emb (.exit n) σ
 | .seq x y=>wj tb (.seq x y) fun an σ β κ γ emb=>Db x an.l1 σ β (kS (Db y) an.r1 κ) γ emb
 | .cond c x y=>wj tb (.cond c x y) fun an σ β κ γ emb=>match c with
   | .tmp t=>match σ.get t with
     | some (cp, .one v)=>(match v with
       | .tt true=>Db x an.l1 σ β κ γ emb
       | .tt false=>Db y an.r1 σ β κ γ emb
       | .bo _ p d _=>@ite _ p d (Db x an.l1 (σ.pE cp true) β κ γ emb) (Db y an.r1 (σ.pE cp false) β κ γ emb)
       | .na true _=>agree (Db x an.l1 (σ.pE cp true) β κ γ emb) (Db y an.r1 (σ.pE cp false) β κ γ emb)
       | .na false true=>Db x an.l1 (σ.pE cp true) β κ γ emb
       | .na false false=>Db y an.r1 (σ.pE cp false) β κ γ emb
       | _=>none)
     | _=>none
   | .const (.bool true)=>Db x an.l1 σ β κ γ emb
   | .const (.bool false)=>Db y an.r1 σ β κ γ emb
   | _=>none
 | .block id body=>wj tb (.block id body) fun an σ β κ γ emb=>Db body an.l1 σ β (kB id κ) γ emb
 | .scope body=>wj tb (.scope body) fun an σ β κ γ emb=>Db body an.l1 σ β κ γ emb
 | .loop body=>wj tb (.loop body) fun an σ _ κ γ emb=>match an with
   | .lp J a=>(pack tb (J.at_ (.loop body) σ.fb) σ σ).bind fun z0=>Iter (fun z=>match unpack tb (J.at_ (.loop body) σ.fb) σ z with
    | some σ1=>Db body a σ1 (HT S J.ls⊕γ) (kJ tb (J.at_ (.loop body) σ.fb) σ κ emb) (HT S J.ls⊕γ) id
    | none=>none) z0
   | .mr J q a=>(match body with
     | .seq (.region _ ops false) (.seq (.cond (.tmp c') .skip (.exit out)) rest)=>(match hd2 ops with
       | some (it,nx,c)=>(match Nat.beq c' c with
         | true=>VU tb (J.at_ (.loop body) σ.fb) q σ it nx c out (fun σ2 β κ γ emb=>Db rest a σ2 β κ γ emb) κ emb
         | false=>none)
       | none=>none)
     | _=>none)
   | _=>none
 | .region _ ops draw=>wj tb (.region default ops draw) fun _ σ _ κ γ emb=>wS tb tt Φ fa (!draw) ops ops.toList 0 σ [] fun σ' lg=>match !draw||(Dp ops lg&&mB (σ'.ob.map (·.1)))with
  | true=>κ γ emb .normal σ'
  | false=>none
 | .rangeFunc g ps x y=>wj tb (.rangeFunc g ps x y) fun _ σ _ κ γ emb=>match fa.rd,σ.fb,wZ tt σ 0 g with
   | false,0,some (.one (.fn (.func f) [] caps))=>(match Nat.ble f 999999 with
     | true=>(match fa.nd.any fun c=>Nat.beq c.f f with
       | false=>wO tb f (.one (.yl (σ.ct+1))::caps.map DY) (ue σ (.loop (fa.fn*1000+yZ x) .ready σ.tm)).ob (σ.ct+64) (fun r=>match mB (r.rd++r.rm)with
         | true=>ru (σ.ct+1) ((ue σ (.loop (fa.fn*1000+yZ x) .ready σ.tm)).Ir none none r) κ emb
         | false=>none) Φ
       | true=>tQ tb f (.one (.yl (σ.ct+1))::caps.map DY) (ue σ (.loop (fa.fn*1000+yZ x) .ready σ.tm)).ob (σ.ct+64) (fun r=>ru (σ.ct+1) ((ue σ (.loop (fa.fn*1000+yZ x) .ready σ.tm)).Ir none none r) κ emb) fa.nd)
     | false=>none)
   | _,_,_=>none
 | .goto _=>fun _ _ _ _ _ _=>none
 | .refuse _=>fun _ _ _ _ _ _=>none
def zJ:Nat->List (AV S)->List (Nat×Nat×AV S)
 | _,[]=>[]
 | i,a::l=>(i,64+i,a)::zJ (i+1) l
def start(c:dt S)(x:HT S c.ls):Option (AS S):=
 (uR c.bk (xL c.ls x)).bind fun ds=>(PS.kh tb id c.ins ds).bind fun p=>(OS.kh tb id c.fc p.2).bind fun q=>
 some {tm:=zJ 0 p.1,ob:=Mi 0 q.1,ct:=256,fb:=0,rt:=List.range c.fc.length}
def sZ(tt:TypeId->Option (TI S))(σ:AS S):List ResultVar->Option (List (AV S))
 | []=>some []
 | .tmp t::l=>(σ.get t).bind fun a=>(sZ tt σ l).map (a.2:: ·)
 | .cell t ty::l=>(σ.get t).bind fun a=>match a.2 with
   | .one (.ptr o 0)=>(look o σ.ob).bind fun b=>match b.2 with
     | .box _ cs=>(tt ty).bind fun i=>(match mi i.d with|true=>(xK i.size cs).map AV.agg|false=>(zS 0 cs).map AV.one).bind fun v=>(sZ tt σ l).map (v:: ·)
     | _=>none
   | _=>none
def Al:List (AV S)->AV S
 | [a]=>a
 | l=> .m8 l
def OS.nC(ob:List (Nat×Nat×AO S))(mp:List (Nat×Nat)):Nat->List KS->Option (List (oE S)×List (Nat×Nat))
 | _,[]=>some ([],mp)
 | o, .now s::l=>(look o mp).bind fun q=>(look q ob).bind fun a=>(OS.take tb mp s a.2).bind fun p=>(OS.nC ob p.2 (o+1) l).map fun r=>(p.1++r.1,r.2)
 | o,_::l=>OS.nC ob mp (o+1) l
def PE:Nat->List Nat->List (Nat×Nat)
 | _,[]=>[]
 | i,x::l=>(i,x)::PE (i+1) l
def Hb(σ0 σ:AS S):Nat->List KS->Bool
 | _,[]=>true
 | o, .kept::l=>(match σ.rt[o]? with|some q=>Nat.beq q o|none=>false)&&(match look o σ0.ob,look o σ.ob with|some x,some y=>Nat.beq x.1 y.1|_,_=>false)&&Hb σ0 σ (o+1) l
 | o,_::l=>Hb σ0 σ (o+1) l
def rU(mp:List (Nat×Nat)):Nat->List KS->List Nat
 | _,[]=>[]
 | o, .now _::l=>match look o mp with|some q=>q::rU mp (o+1) l|none=>rU mp (o+1) l
 | o,_::l=>rU mp (o+1) l
def pz:Nat->List KS->List Nat
 | _,[]=>[]
 | o, .kept::l=>o::pz (o+1) l
 | o,_::l=>pz (o+1) l
def finish(n:Nat)(o:Out)(v:AV S)(σ0 σ:AS S):Option (HT S o.zp):=
 (PS.take tb (PE 0 σ.rt) o.out v).bind fun p=>(OS.nC tb σ.ob p.2 0 o.k9).bind fun q=>
 match Hb σ0 σ 0 o.k9&&(mB (pz 0 o.k9++rU q.2 0 o.k9)&&Nat.beq σ.rt.length n&&q.2.all fun p=>Nat.ble (p.1+1) o.k9.length)with
 | true=>(uR o.pm' (p.1++q.1)).bind (zr o.zp)
 | false=>none
def wT(n:Nat)(v:AV S)(σ0 σ:AS S):(os:List Out)->Option (pF S os)
 | []=>none
 | [o]=>finish tb n o v σ0 σ
 | o::p::os=>match finish tb n o v σ0 σ with
   | some z=>some (Sum.inl z)
   | none=>(wT n v σ0 σ (p::os)).map Sum.inr
noncomputable def ZG(c:dt S)(rs:List ResultVar)(body:Code)(an:An)(x:HT S c.ls):Option (pF S c.outs):=
 match start tb c x with
 | some σ0=>Db tb tt Φ fa body an σ0 (pF S c.outs) (fun _ e' ex σ=>match ex with
  | .exit _=>none
  | _=>(EG fa.pre σ).bind fun σ=>(sZ tt σ rs).bind fun vs=>(wT tb c.fc.length (Al vs) σ0 σ c.outs).bind fun y=>some (e' y)) (pF S c.outs) id
 | none=>none
noncomputable def Zl(c:NC S)(rs:List ResultVar)(body:Code)(an:An)(γ:Type)(k:HT S c.out.zp->Option γ)(x:HT S c.ls):Option γ:=
 match start tb c.ctr x with
 | some σ0=>Db tb tt Φ fa body an σ0 γ (fun _ e' ex σ=>match ex with
  | .exit _=>none
  | _=>(EG fa.pre σ).bind fun σ=>(sZ tt σ rs).bind fun vs=>(finish tb c.fc.length c.out (Al vs) σ0 σ).bind fun y=>(k y).map e') γ id
 | none=>none
def Hv:List Nat->List (Nat×Nat×AV S)->List (Nat×Nat×AV S)->Option (List (Nat×Nat×AV S))
 | [],[],tm=>some tm
 | p::ps,(_,cp,v)::l,tm=>Hv ps l ((p,cp,v)::drop1 p tm)
 | _,_,_=>none
def TS:Nat->List (Nat×Nat×AV S)->List (Nat×Nat×AV S)
 | _,[]=>[]
 | v,(t,_,x)::l=>(t,v,x)::TS (v+1) l
def Us(r:Nat)(ps:List Nat)(σ:AS S):Option (AS S):=match look 0 σ.ob,σ.tm with
 | some (_, .loop r' .ready tm),(_,_, .one (.yl 0))::l=>(match Nat.beq r' r&&Nat.ble tm.length 200 with|true=>(Hv ps l (TS 300 tm)).map fun tm'=>{σ with tm:=tm',ct:=512}|false=>none)
 | _,_=>none
def Hg(st0 st:LS)(σ:AS S):Option (AS S):=(σ.rt[0]?).bind fun q=>(look q σ.ob).bind fun a=>match a.2 with
 | .loop r st1 tm=>(match LS.same st1 st0 with|true=>some {σ with ob:=(q,σ.ct+32, .loop r st tm)::gy [q] σ.ob,ct:=σ.ct+64}|false=>none)
 | _=>none
def exB:RD->Bool
 | .normal=>true
 | _=>false
def VN:RD->LS
 | .normal=> .ready
 | e=> .done e
noncomputable def ZH(c:dt S)(r:Nat)(ps:List Nat)(aS body:Code)(an:An)(x:HT S c.ls):Option (pF S c.outs):=
 match start tb c x with
 | some σ0=>(match Us r ps σ0 with
   | some σ1=>Db tb tt Φ fa aS an.l1 σ1 (pF S c.outs) (fun _ e' ex σ2=>match ex with
    | .normal=>(Hg .ready .busy σ2).bind fun σ3=>Db tb tt Φ fa body an.r1 σ3 (pF S c.outs) (fun _ e2 ex σ4=>(Hg .busy (VN ex) σ4).bind fun σ5=>
     (EG fa.pre σ5).bind fun σ6=>(wT tb c.fc.length (.one (.tt (exB ex))) σ0 σ6 c.outs).bind fun y=>some (e2 y)) _ e'
    | _=>none) (pF S c.outs) id
   | none=>none)
 | none=>none
end
end E
end Go.Proofs.YtekpafdhgkocaaaGreat
