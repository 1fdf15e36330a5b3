/- Part of the proof. -/
import Derived.Test.YtjfkdglgecgjfaaGreatZRZ
namespace Go.Proofs.YtjfkdglgecgjfaaGreat
open Go.RowKit G
open E
set_option maxRecDepth 100000
noncomputable section
abbrev cI:Co:=.int .i64
abbrev cT:Co:=.sl .u8
abbrev oD(c:Co):PS:=.one (.hU c)
abbrev oI:=oD cI
abbrev oB:=oD .bo
abbrev oP(i j:Nat):PS:=.one (.ptr i j)
abbrev oA(i:Nat):PS:=.one (.aw i)
abbrev oS(n:Nat):PS:=.agg [.hU (.st n)]
def cA:CS->List Co| .hU c=>[c]| .rw _ c=>[.sl c]|_=>[]
def cB:CS->List Co| .fn _ xs ys=>(xs++ys).flatMap cA|s=>cA s
def cP:PS->List Co| .one s=>cB s| .agg l=>l.flatMap cB|_=>[]
def cQ:PS->List Co| .dv l=>l.flatMap cP|p=>cP p
def cO:OS->List Co| .box _ l=>l.flatMap cB| .arr _ c _=>[.sl c]| .map _ k v=>[.mp k v]| .nI _ _ k c=>[.mp k (.sl c)]| .jv _ k v _=>[.mp k v]| .loop _ _ l=>l.flatMap fun x=>cQ x.2|_=>[]
def cK:KS->List Co| .now s=>cO s|_=>[]
abbrev lJ(l:List (Nat×PS))(eZ:List OS):List Co:=l.flatMap (fun x=>cQ x.2)++eZ.flatMap cO
abbrev lC(l:List PS)(eZ:List OS):List Co:=l.flatMap cQ++eZ.flatMap cO
abbrev lO(p:PS)(eZ:List KS):List Co:=cQ p++eZ.flatMap cK
def J(l:List (Nat×PS))(h:(Nat.ble l.length 190&&Nat.ble 0 190)=true:=by rfl):JA:={MR:=l,eZ:=[],ls:=lJ l [],vm:=h}
def JO(l:List (Nat×PS))(eZ:List OS)(f:List (Nat×Nat))(h:(Nat.ble l.length 190&&Nat.ble eZ.length 190)=true:=by rfl):JA:={MR:=l,eZ:=eZ,ls:=lJ l eZ,fx:=f,vm:=h}
def JI(n:Nat):JA:=J [(n,oI)]
def JB(n:Nat):JA:=J [(n,oB)]
abbrev mO(p:PS):Out:={out:=p,sD:=lO p []}
abbrev mK(p:PS)(eZ:List KS)(h:Nat.ble eZ.length 30=true:=by rfl):Out:={out:=p,e8:=eZ,sD:=lO p eZ,vm:=h}
abbrev kK(f:FuncId)(l:List PS)(o:PS)(D0:HT Sx (lC l [])->Option (kH Sx [mO o])):gj Sx:={f:=f,ins:=l,ls:=lC l [],outs:=[mO o],D0:=D0}
abbrev kO(f:FuncId)(l:List PS)(eZ:List OS)(os:List Out)(D0:HT Sx (lC l eZ)->Option (kH Sx os))(h:(Nat.ble eZ.length 30&&os.all fun o=>Nat.ble eZ.length o.e8.length)=true:=by rfl):gj Sx:={f:=f,ins:=l,eZ:=eZ,ls:=lC l eZ,outs:=os,D0:=D0,vm:=h}
abbrev s2{a b d:Type}(f:a->b->d)(x:a×b):d:=f x.1 x.2
abbrev s3{a b c d:Type}(f:a->b->c->d)(x:a×b×c):d:=f x.1 x.2.1 x.2.2
abbrev s4{a b c e d:Type}(f:a->b->c->e->d)(x:a×b×c×e):d:=f x.1 x.2.1 x.2.2.1 x.2.2.2
def vw:gj Sx:=kK 15 [oS 6] oB ju
theorem ve:SX vw:=fq Tryz.f15 [.tmp 2] {fn:=15} (.b .o (.b (.b .o (.j {early:=true} (.u (.lp (JI 3) .o)))) .o)) (bQ)
def xE:gj Sx:=kK 16 [] oB (fun _=>ew)
theorem wE:SX xE:=R.S8
def vt:gj Sx:=kK 100 [] oI (fun _=>lL)
theorem u9:SX vt:=fq Tryz.f100 [.tmp 0] {fn:=100} .o (bQ)
def xD:gj Sx:=kK 42 [oI] oB eu
theorem wD:SX xD:=fq Tryz.f42 [.tmp 2] {fn:=42} .o (c1 u9<|bQ)
def sR:gj Sx:=kK 17 [oS 6] oI gZ
theorem sv:SX sR:=fq Tryz.f17 [.tmp 2] {fn:=17} (.b .o (.b (.b .o (.j {early:=true} (.u (.lp (JI 3) (.b .o (.b (.u (.b (.j (JB 28) .o) .o)) .o)))))) (.b (.b (.j (JB 38) .o) .o) (.b (.b .o (.u (.lp (JI 4) (.b .o (.b (.u (.b .o (.b (.j (JB 92) .o) .o))) .o))))) .o)))) (c1 wD<|bQ)
def yY:gj Sx:=kK 120 [oS 7] oB kP
theorem xV:SX yY:=fq Tryz.f120 [.tmp 2] {fn:=120} .o (bQ)
def xC:gj Sx:=kK 101 [oD (.sl cI)] oB gb
theorem wC:SX xC:=fq Tryz.f101 [.tmp 2] {fn:=101} (.b .o (.b (.b .o (.u (.lp (JI 7) .o))) .o)) (c1 xV<|bQ)
def yZ:gj Sx:=kK 43 [oS 6] oI kU
theorem xW:SX yZ:=fq Tryz.f43 [.tmp 2] {fn:=43} (.b .o (.b .o (.b (.b .o (.j {JB 3 with early:=true} (.u (.lp (J [(3,oB),(15,oI)]) .o)))) .o))) (c1 wC<|bQ)
def xB:gj Sx:=kK 45 [oI] (oS 11) dK
theorem wB:SX xB:=fq Tryz.f45 [.cell 2 89] {fn:=45} .o (bQ)
def mW:gj Sx:=kO 98 [oD cT] [] [mK (.one (.rw 0 .u8)) [.now (.row 5 .u8)]] cH
theorem eJ:SX mW:=fq Tryz.f98 [.tmp 2] {pre:=[(2,0,.own 5 .u8)],fn:=98} .o (bQ)
def tZ:gj Sx:=kK 102 [oS 11] oB iL
theorem tF:SX tZ:=fq Tryz.f102 [.tmp 2] {fn:=102} .o (bQ)
def Bu:gj Sx:=kO 44 [oD cT,oD (.sl (.st 11))] [] [mK (.dv [.one (.rw 0 .u8),oB]) [.now (.row 5 .u8)]] (s2 gV)
theorem AQ:SX Bu:=fq Tryz.f44 [.tmp 4,.tmp 5] {pre:=[(4,0,.own 5 .u8)],fn:=44} (.b .o (.b .o (.b (.b .o (.u (.lp {JO [(6,.one (.rw 0 .u8)),(14,oI)] [.row 5 .u8] []with kill:=[11]} (.b .o (.b .o (.b (.u (.b .o (.b .o (.b .o (.u (.lp (JO [(6,.one (.rw 0 .u8)),(9,oI)] [.row 5 .u8] []) .o)))))) .o)))))) .o))) (c1 eJ<|c1 tF<|bQ)
def xz:gj Sx:=kO 18 [oS 6] [] [mK (.dv [.one (.rw 0 .u8),oI]) [.now (.row 5 .u8)]] ga
theorem wA:SX xz:=fq Tryz.f18 [.tmp 2,.tmp 3] {pre:=[(2,0,.own 5 .u8)],fn:=18} (.b .o (.b .o (.b .o (.b .o (.b .o (.b (.b .o (.j {JO [(5,.one (.rw 0 .u8))] [.row 5 .u8] []with kill:=[37,45,46]} (.u (.lp {JO [(5,.one (.rw 0 .u8)),(51,oI)] [.row 5 .u8] []with kill:=[37,45,46]} .o)))) .o)))))) (c1 xW<|c1 wB<|c1 AQ<|bQ)
def G8:gj Sx:=kO 46 [oD cT] [] [mK (oP 0 0) [.now (.box 172 [.hU (.st 14)])]] A8
theorem Gx:SX G8:=fq Tryz.f46 [.tmp 2] {fn:=46} .o (c1 eJ<|bQ)
def Bt:gj Sx:=kK 152 [oD cT,oD cT] oB (s2 G.bytes_Equal)
theorem AP:SX Bt:=fq Tryz.f152 [.tmp 4] {fn:=152} .o (bQ)
def tW:gj Sx:=kK 103 [oD cT,oD cT] oB (s2 G.bytes_HasPrefix)
theorem tC:SX tW:=fq Tryz.f103 [.tmp 4] {fn:=103} .o (c1 AP<|bQ)
def p9:gj Sx:=kO 104 [oP 0 0,oI,oI] [.box 172 [.hU (.st 14)]] [mK (.dv []) [.now (.box 172 [.hU (.st 14)])]] (s3 cE)
theorem eF:SX p9:=fq Tryz.f104 [] {fn:=104} (.b (.j (JB 15) .o) .o) (bQ)
def qc:gj Sx:=kO 105 [oP 0 0,oI] [.box 172 [.hU (.st 14)]] [mK (.dv [oD cT,oB]) [.now (.box 172 [.hU (.st 14)])]] (s2 dI)
theorem gz:SX qc:=fq Tryz.f105 [.tmp 4,.tmp 5] {fn:=105} .o (c1 eF<|bQ)
def p7:gj Sx:=kO 47 [oP 0 0,oD cT,oI] [.box 172 [.hU (.st 14)]] [mK oB [.now (.box 172 [.hU (.st 14)])]] (s3 fP)
theorem pQ:SX p7:=fq Tryz.f47 [.tmp 6] {fn:=47} .o (c1 tC<|c1 eF<|c1 gz<|bQ)
def Bv:gj Sx:=kO 106 [] [] [mK (.one (.fn 153 [] [.ptr 0 0])) [.now (.box 82 [.hU (.int .u64)])]] (fun _=>qX)
theorem AU:SX Bv:=fq Tryz.f106 [.tmp 0] {fn:=106} .o (bQ)
def xF:gj Sx:=kO 153 [.one (.hU .u8),oP 0 0] [.box 82 [.hU (.int .u64)]] [mK (oD (.int .u64)) [.now (.box 82 [.hU (.int .u64)])]] (s2 nj)
theorem wG:SX xF:=fq Tryz.f153 [.tmp 3] {fn:=153} .o (bQ)
def sU:gj Sx:=kO 48 [oP 0 0,oI] [.box 172 [.hU (.st 14)]] [mK (oD (.int .u64)) [.now (.box 172 [.hU (.st 14)])]] (s2 dH)
theorem ik:SX sU:=fq Tryz.f48 [.tmp 4] {fn:=48} (.b .o (.b .o (.b (.b (.j (JB 18) .o) (.j (JI 1) .o)) (.b .o (.b .o (.b .o (.b .o (.b (.b .o (.u (.lp (JO [(7,oD (.int .u64)),(32,oI)] [.box 82 [.hU (.int .u64)]] [(0,1793)]) .o))) .o)))))))) (c1 gz<|c1 AU<|c1 wG<|bQ)
def sS:gj Sx:=kO 49 [oP 0 0,oI,oI] [.box 172 [.hU (.st 14)]] [mK (.dv []) [.now (.box 172 [.hU (.st 14)])]] (s3 cL)
theorem kG:SX sS:=fq Tryz.f49 [] {fn:=49} .o (c1 eF<|bQ)
def p8:gj Sx:=kO 50 [oP 0 0] [.box 172 [.hU (.st 14)]] [mK oI [.now (.box 172 [.hU (.st 14)])]] b6
theorem gy:SX p8:=fq Tryz.f50 [.tmp 2] {fn:=50} .o (c1 ik<|c1 eF<|bQ)
def so:gj Sx:=kO 107 [oP 0 0,oI] [.box 172 [.hU (.st 14)]] [mK (.one (.rw 1 .u8)) [.now (.box 172 [.hU (.st 14)]),.now (.row 5 .u8)]] (s2 eW)
theorem kf:SX so:=fq Tryz.f107 [.tmp 4] {fn:=107} .o (c1 gz<|c1 eJ<|bQ)
def pM:gj Sx:=kO 51 [.agg [.ptr 0 0]] [.box 172 [.hU (.st 14)]] [mK (.agg [.hU (.a8 32)]) [.now (.box 172 [.hU (.st 14)])]] dY
theorem pE:SX pM:=fq Tryz.f51 [.cell 2 34] {fn:=51} .o (c1 kf<|bQ)
def su:gj Sx:=kO 56 [oP 0 0] [.box 172 [.hU (.st 14)]] [mK (oS 4) [.kept]] gG
theorem kg:SX su:=fq Tryz.f56 [.cell 2 31] {fn:=56} .o (bQ)
def sn:gj Sx:=kO 52 [.agg [.ptr 0 0]] [.box 172 [.hU (.st 14)]] [mK oB [.kept]] eP
theorem qU:SX sn:=fq Tryz.f52 [.tmp 2] {fn:=52} .o (c1 kg<|bQ)
def vx:gj Sx:=kO 55 [oP 0 0] [.box 172 [.hU (.st 14)]] [mK oI [.kept]] eE
theorem mL:SX vx:=fq Tryz.f55 [.tmp 2] {fn:=55} .o (bQ)
def mU:gj Sx:=kO 108 [.agg [.ptr 0 0]] [.box 172 [.hU (.st 14)]] [mK (oS 5) [.now (.box 172 [.hU (.st 14)])]] fI
theorem me:SX mU:=fq Tryz.f108 [.cell 2 50] {fn:=108} .o (c1 gy<|bQ)
def mV:gj Sx:=kO 109 [.agg [.ptr 0 0]] [.box 172 [.hU (.st 14)]] [mK (oS 5) [.now (.box 172 [.hU (.st 14)])]] fJ
theorem mf:SX mV:=fq Tryz.f109 [.cell 2 50] {fn:=109} .o (c1 gy<|c1 kf<|bQ)
def mT:gj Sx:=kO 53 [.agg [.ptr 0 0]] [.box 172 [.hU (.st 14)]] [mK (oS 5) [.now (.box 172 [.hU (.st 14)])]] ek
theorem mc:SX mT:=fq Tryz.f53 [.cell 2 50] {fn:=53} .o (c1 mL<|c1 ik<|c1 me<|c1 mf<|c1 kG<|bQ)
def sT:gj Sx:=kO 54 [oP 0 0] [.box 172 [.hU (.st 14)]] [mK oI [.kept]] fB
theorem sx:SX sT:=fq Tryz.f54 [.tmp 2] {fn:=54} .o (bQ)
def xy:gj Sx:=kK 19 [oD cT] (.dv [oS 6,oS 4]) fZ
theorem wz:SX xy:=fq Tryz.f19 [.cell 2 37,.cell 3 31] {pre:=[(2,5,.own 50 (.st 5))],fn:=19} (.b .o (.b .o (.b .o (.b (.b .o (.b .o (.j (JO [] [.box 172 [.hU (.st 14)]] [(0,449)]) .o))) (.b .o (.b (.b .o (.j (JO [] [.box 37 [.hU cI,.hU cI,.hU (.a8 32),.hU (.a8 32),.rw 3 (.st 5)],.box 172 [.hU (.st 14)],.box 37 [.hU cI,.hU cI,.hU (.a8 32),.hU (.a8 32),.rw 4 (.st 5)],.row 50 (.st 5),.row 50 (.st 5)] [(0,257),(1,449),(2,2369)]) (.u (.lp {JO [(7,oD (.int .u64))] [.box 37 [.hU cI,.hU cI,.hU (.a8 32),.hU (.a8 32),.rw 3 (.st 5)],.box 172 [.hU (.st 14)],.box 37 [.hU cI,.hU cI,.hU (.a8 32),.hU (.a8 32),.rw 4 (.st 5)],.row 50 (.st 5),.row 50 (.st 5)] [(0,257),(1,449),(2,2369)]with pre:=[(2,5,.own 50 (.st 5)),(6,5,.own 50 (.st 5))]} (.b (.b (.j (JB 43) .o) .o) .o))))) (.b (.b .o (.j (JO [] [.box 172 [.hU (.st 14)]] [(0,449)]) .o)) .o))))))) (c1 Gx<|c1 pQ<|c1 ik<|c1 kG<|c1 gy<|c1 pE<|c1 qU<|c1 mc<|c1 sx<|c1 mL<|c1 kg<|bQ)
def tX:gj Sx:=kK 110 [oS 5,oS 5] oB (s2 iG)
theorem tD:SX tX:=fq Tryz.f110 [.tmp 4] {fn:=110} .o (bQ)
def vu:gj Sx:=kK 57 [oD (.sl (.st 5)),oD (.sl (.st 5))] oB (s2 jt)
theorem vd:SX vu:=fq Tryz.f57 [.tmp 4] {fn:=57} (.b .o (.b .o (.b (.b .o (.u (.lp (JI 5) .o))) .o))) (c1 tD<|bQ)
def tY:gj Sx:=kK 20 [oS 6,oS 6] oB (s2 iH)
theorem tE:SX tY:=fq Tryz.f20 [.tmp 4] {fn:=20} .o (c1 vd<|bQ)
def mX:gj Sx:=kK 21 [oD cT,oD cT] oB (s2 dn)
theorem mg:SX mX:=fq Tryz.f21 [.tmp 4] {fn:=21} (.b .o (.b .o (.b (.b .o (.u (.lp (JI 13) .o))) .o))) (bQ)
def nw:gj Sx:=kK 4 [oS 6,oD cT] oB (s2 gu)
theorem ni:SX nw:=fq Tryz.f4 [.tmp 4] {fn:=4} (.b .o (.b (.b (.j (JB 20) .o) .o) (.b (.b .o (.j {early:=true} .o)) (.b .o (.b (.b .o (.b (.b (.j (JB 4) .o) .o) .o)) .o))))) (c1 ve<|c1 wE<|c1 sv<|c1 wA<|c1 wz<|c1 tE<|c1 mg<|bQ)
end
end Go.Proofs.YtjfkdglgecgjfaaGreat
