/- Part of the proof. -/
import Derived.Test.YtjfkdglgecgjfaaGreatZPure
namespace Go.Proofs.YtjfkdglgecgjfaaGreat
open G
noncomputable section
def G.cx:Option (Bool×Int):=some (false,(1:Int))
def G.fo:Option Bool:=some true
def G.gy(a0:Int):Option (List UInt8):=if a0=0then some ([117,110,116,111,117,99,104,101,100]:List UInt8)else if a0=1then some ([114,101,115,117,109,97,98,108,101]:List UInt8)else if a0=2then some ([99,111,109,112,108,101,116,101]:List UInt8)else some ([]:List UInt8)
def G.c7:Option Int:=some (0:Int)
def G.dh:Option Int:=some (0:Int)
def G.c8:Option Int:=some (0:Int)
def G.dj:Option Int:=some (0:Int)
def G.bP:Option sJ:=some (⟨(1:Int),(0:Int)⟩:sJ)
def G.js(_:Unit):Option (Unit⊕sJ):=(cx).bind fun y3=>(if y3.1=true then some true else some (y3.2 !=0)).bind fun v4=>if v4=true then some (.inr (⟨y3.2,(0:Int)⟩:sJ))else some (.inl ())
def G.cD:Option sJ:=(bP).bind fun y1=>if(decide (y1.code=0/\y1.at_=0))=false then some y1 else Iter js ()
def G.eM(a0:Int):Option Bool:=(if a0≥0then some (decide (a0<=2))else some false).bind fun v1=>(if v1=true then(idx [([117,110,116,111,117,99,104,101,100]:List UInt8),([114,101,115,117,109,97,98,108,101]:List UInt8),([99,111,109,112,108,101,116,101]:List UInt8)] a0).bind fun x3=>some x3 else some ([]:List UInt8)).bind fun v2=>(cx).bind fun y4=>(fo).bind fun y5=>if y5=true then(gy a0).bind fun y6=>if y6=v2 then(c7).bind fun y7=>if y7=0then(dh).bind fun y8=>if y8=0then(c8).bind fun y9=>if y9=0then(dj).bind fun y10=>if y10=0then if y4.1=false then if y4.2=1then(bP).bind fun y11=>if y11.code=1/\y11.at_=0then(cD).bind fun y12=>some (decide (y12.code=1/\y12.at_=0))else some false else some false else some false else some false else some false else some false else some false else some false else some false
def G.ey(a0:Int)(a1:Int):Option Int:=(mC (0<=(Bs .u64 (IntKind.u64.wrap a1) (31:Int)))).bind fun _=>(mC (0<=(IntKind.u64.wrap ((32:Int)-(Bs .u64 (IntKind.u64.wrap a1) (31:Int)))))).bind fun _=>some (PH .u32 (B3 .u32 a0 (Bs .u64 (IntKind.u64.wrap a1) (31:Int))) (uM .u32 a0 (IntKind.u64.wrap ((32:Int)-(Bs .u64 (IntKind.u64.wrap a1) (31:Int))))))
end
end Go.Proofs.YtjfkdglgecgjfaaGreat
