/- Part of the proof. -/
import Derived.Test.YtjfkdglgecgjfaaGreatZRZ
namespace Go.Proofs.YtjfkdglgecgjfaaGreat
open Go.RowKit G
open E
set_option maxRecDepth 100000
noncomputable section
abbrev cI:Co:=.int .i64
abbrev cT:Co:=.sl .u8
abbrev oD(c:Co):PS:=.one (.eX c)
abbrev oI:=oD cI
abbrev oB:=oD .bo
abbrev oP(i j:Nat):PS:=.one (.ptr i j)
abbrev oA(i:Nat):PS:=.one (.aw i)
abbrev oS(n:Nat):PS:=.agg [.eX (.st n)]
def cA:CS->List Co| .eX c=>[c]| .rw _ c=>[.sl c]|_=>[]
def cB:CS->List Co| .fn _ xs ys=>(xs++ys).flatMap cA|s=>cA s
def cP:PS->List Co| .one s=>cB s| .agg l=>l.flatMap cB|_=>[]
def cQ:PS->List Co| .dD l=>l.flatMap cP|p=>cP p
def cO:OS->List Co| .box _ l=>l.flatMap cB| .arr _ c _=>[.sl c]| .map _ k v=>[.mp k v]| .qE _ _ k c=>[.mp k (.sl c)]| .lD _ k v _=>[.mp k v]| .loop _ _ l=>l.flatMap fun x=>cQ x.2|_=>[]
def cK:KS->List Co| .now s=>cO s|_=>[]
abbrev lJ(l:List (Nat×PS))(fm:List OS):List Co:=l.flatMap (fun x=>cQ x.2)++fm.flatMap cO
abbrev lC(l:List PS)(fm:List OS):List Co:=l.flatMap cQ++fm.flatMap cO
abbrev lO(p:PS)(fm:List KS):List Co:=cQ p++fm.flatMap cK
def J(l:List (Nat×PS))(h:(Nat.ble l.length 190&&Nat.ble 0 190)=true:=by rfl):JA:={Q6:=l,fm:=[],ls:=lJ l [],uB:=h}
def JO(l:List (Nat×PS))(fm:List OS)(f:List (Nat×Nat))(h:(Nat.ble l.length 190&&Nat.ble fm.length 190)=true:=by rfl):JA:={Q6:=l,fm:=fm,ls:=lJ l fm,fx:=f,uB:=h}
def JI(n:Nat):JA:=J [(n,oI)]
def JB(n:Nat):JA:=J [(n,oB)]
abbrev mO(p:PS):Out:={out:=p,vm:=lO p []}
abbrev mK(p:PS)(fm:List KS)(h:Nat.ble fm.length 30=true:=by rfl):Out:={out:=p,gu:=fm,vm:=lO p fm,uB:=h}
abbrev kK(f:FuncId)(l:List PS)(o:PS)(uU:HT Sx (lC l [])->Option (jo Sx [mO o])):dS Sx:={f:=f,ins:=l,ls:=lC l [],outs:=[mO o],uU:=uU}
abbrev kO(f:FuncId)(l:List PS)(fm:List OS)(os:List Out)(uU:HT Sx (lC l fm)->Option (jo Sx os))(h:(Nat.ble fm.length 30&&os.all fun o=>Nat.ble fm.length o.gu.length)=true:=by rfl):dS Sx:={f:=f,ins:=l,fm:=fm,ls:=lC l fm,outs:=os,uU:=uU,uB:=h}
abbrev s2{a b d:Type}(f:a->b->d)(x:a×b):d:=f x.1 x.2
abbrev s3{a b c d:Type}(f:a->b->c->d)(x:a×b×c):d:=f x.1 x.2.1 x.2.2
abbrev s4{a b c e d:Type}(f:a->b->c->e->d)(x:a×b×c×e):d:=f x.1 x.2.1 x.2.2.1 x.2.2.2
def yY:dS Sx:=kK 15 [oS 6] oB jA
theorem pG:SX yY:=fq Tryz.f15 [.tmp 2] {fn:=15} (.b .o (.b (.b .o (.j {early:=true} (.u (.lp (JI 3) .o)))) .o)) (bJ)
def Bn:dS Sx:=kK 16 [] oB (fun _=>ka)
theorem Ag:SX Bn:=R.Xk
def yW:dS Sx:=kK 100 [] oI (fun _=>c9)
theorem pF:SX yW:=fq Tryz.f100 [.tmp 0] {fn:=100} .o (bJ)
def Cv:dS Sx:=kK 120 [oS 7] oB fo
theorem nc:SX Cv:=fq Tryz.f120 [.tmp 2] {fn:=120} .o (bJ)
def Bl:dS Sx:=kK 101 [oD (.sl cI)] oB iQ
theorem Af:SX Bl:=fq Tryz.f101 [.tmp 2] {fn:=101} (.b .o (.b (.b .o (.u (.lp (JI 7) .o))) .o)) (c1 nc<|bJ)
def Cw:dS Sx:=kK 43 [oS 6] oI nz
theorem BC:SX Cw:=fq Tryz.f43 [.tmp 2] {fn:=43} (.b .o (.b .o (.b (.b .o (.j {JB 3 with early:=true} (.u (.lp (J [(3,oB),(15,oI)]) .o)))) .o))) (c1 Af<|bJ)
def Bk:dS Sx:=kK 45 [oI] (oS 11) eK
theorem Ae:SX Bk:=fq Tryz.f45 [.cell 2 89] {fn:=45} .o (bJ)
def pT:dS Sx:=kO 98 [oD cT] [] [mK (.one (.rw 0 .u8)) [.now (.row 5 .u8)]] dq
theorem fT:SX pT:=fq Tryz.f98 [.tmp 2] {pre:=[(2,0,.own 5 .u8)],fn:=98} .o (bJ)
def w7:dS Sx:=kK 102 [oS 11] oB kq
theorem wD:SX w7:=fq Tryz.f102 [.tmp 2] {fn:=102} .o (bJ)
def EJ:dS Sx:=kO 44 [oD cT,oD (.sl (.st 11))] [] [mK (.dD [.one (.rw 0 .u8),oB]) [.now (.row 5 .u8)]] (s2 jF)
theorem Eb:SX EJ:=fq Tryz.f44 [.tmp 4,.tmp 5] {pre:=[(4,0,.own 5 .u8)],fn:=44} (.b .o (.b .o (.b (.b .o (.u (.lp {JO [(6,.one (.rw 0 .u8)),(14,oI)] [.row 5 .u8] []with kill:=[11]} (.b .o (.b .o (.b (.u (.b .o (.b .o (.b .o (.u (.lp (JO [(6,.one (.rw 0 .u8)),(9,oI)] [.row 5 .u8] []) .o)))))) .o)))))) .o))) (c1 fT<|c1 wD<|bJ)
def Bj:dS Sx:=kO 18 [oS 6] [] [mK (.dD [.one (.rw 0 .u8),oI]) [.now (.row 5 .u8)]] j8
theorem Ad:SX Bj:=fq Tryz.f18 [.tmp 2,.tmp 3] {pre:=[(2,0,.own 5 .u8)],fn:=18} (.b .o (.b .o (.b .o (.b .o (.b .o (.b (.b .o (.j {JO [(5,.one (.rw 0 .u8))] [.row 5 .u8] []with kill:=[37,45,46]} (.u (.lp {JO [(5,.one (.rw 0 .u8)),(51,oI)] [.row 5 .u8] []with kill:=[37,45,46]} .o)))) .o)))))) (c1 BC<|c1 Ae<|c1 Eb<|bJ)
def K7:dS Sx:=kO 46 [oD cT] [] [mK (oP 0 0) [.now (.box 172 [.eX (.st 14)])]] Em
theorem Km:SX K7:=fq Tryz.f46 [.tmp 2] {fn:=46} .o (c1 fT<|bJ)
def EF:dS Sx:=kK 152 [oD cT,oD cT] oB (s2 G.bytes_Equal)
theorem D8:SX EF:=fq Tryz.f152 [.tmp 4] {fn:=152} .o (bJ)
def wV:dS Sx:=kK 103 [oD cT,oD cT] oB (s2 G.bytes_HasPrefix)
theorem wy:SX wV:=fq Tryz.f103 [.tmp 4] {fn:=103} .o (c1 D8<|bJ)
def sX:dS Sx:=kO 104 [oP 0 0,oI,oI] [.box 172 [.eX (.st 14)]] [mK (.dD []) [.now (.box 172 [.eX (.st 14)])]] (s3 dm)
theorem fO:SX sX:=fq Tryz.f104 [] {fn:=104} (.b (.j (JB 15) .o) .o) (bJ)
def sY:dS Sx:=kO 105 [oP 0 0,oI] [.box 172 [.eX (.st 14)]] [mK (.dD [oD cT,oB]) [.now (.box 172 [.eX (.st 14)])]] (s2 eI)
theorem ja:SX sY:=fq Tryz.f105 [.tmp 4,.tmp 5] {fn:=105} .o (c1 fO<|bJ)
def sV:dS Sx:=kO 47 [oP 0 0,oD cT,oI] [.box 172 [.eX (.st 14)]] [mK oB [.now (.box 172 [.eX (.st 14)])]] (s3 iC)
theorem sH:SX sV:=fq Tryz.f47 [.tmp 6] {fn:=47} .o (c1 wy<|c1 fO<|c1 ja<|bJ)
def EK:dS Sx:=kO 106 [] [] [mK (.one (.fn 153 [] [.ptr 0 0])) [.now (.box 82 [.eX (.int .u64)])]] (fun _=>uc)
theorem Ec:SX EK:=fq Tryz.f106 [.tmp 0] {fn:=106} .o (bJ)
def Bo:dS Sx:=kO 153 [.one (.eX .u8),oP 0 0] [.box 82 [.eX (.int .u64)]] [mK (oD (.int .u64)) [.now (.box 82 [.eX (.int .u64)])]] (s2 qc)
theorem Ah:SX Bo:=fq Tryz.f153 [.tmp 3] {fn:=153} .o (bJ)
def vU:dS Sx:=kO 48 [oP 0 0,oI] [.box 172 [.eX (.st 14)]] [mK (oD (.int .u64)) [.now (.box 172 [.eX (.st 14)])]] (s2 eG)
theorem jW:SX vU:=fq Tryz.f48 [.tmp 4] {fn:=48} (.b .o (.b .o (.b (.b (.j (JB 18) .o) (.j (JI 1) .o)) (.b .o (.b .o (.b .o (.b .o (.b (.b .o (.u (.lp (JO [(7,oD (.int .u64)),(32,oI)] [.box 82 [.eX (.int .u64)]] [(0,1793)]) .o))) .o)))))))) (c1 ja<|c1 Ec<|c1 Ah<|bJ)
def vS:dS Sx:=kO 49 [oP 0 0,oI,oI] [.box 172 [.eX (.st 14)]] [mK (.dD []) [.now (.box 172 [.eX (.st 14)])]] (s3 du)
theorem nk:SX vS:=fq Tryz.f49 [] {fn:=49} .o (c1 fO<|bJ)
def sW:dS Sx:=kO 50 [oP 0 0] [.box 172 [.eX (.st 14)]] [mK oI [.now (.box 172 [.eX (.st 14)])]] cG
theorem iZ:SX sW:=fq Tryz.f50 [.tmp 2] {fn:=50} .o (c1 jW<|c1 fO<|bJ)
def vj:dS Sx:=kO 107 [oP 0 0,oI] [.box 172 [.eX (.st 14)]] [mK (.one (.rw 1 .u8)) [.now (.box 172 [.eX (.st 14)]),.now (.row 5 .u8)]] (s2 gz)
theorem mM:SX vj:=fq Tryz.f107 [.tmp 4] {fn:=107} .o (c1 ja<|c1 fT<|bJ)
def sB:dS Sx:=kO 51 [.agg [.ptr 0 0]] [.box 172 [.eX (.st 14)]] [mK (.agg [.eX (.a8 32)]) [.now (.box 172 [.eX (.st 14)])]] fj
theorem sf:SX sB:=fq Tryz.f51 [.cell 2 34] {fn:=51} .o (c1 mM<|bJ)
def vk:dS Sx:=kO 56 [oP 0 0] [.box 172 [.eX (.st 14)]] [mK (oS 4) [.kept]] jk
theorem mN:SX vk:=fq Tryz.f56 [.cell 2 31] {fn:=56} .o (bJ)
def vf:dS Sx:=kO 52 [.agg [.ptr 0 0]] [.box 172 [.eX (.st 14)]] [mK oB [.kept]] gj
theorem tY:SX vf:=fq Tryz.f52 [.tmp 2] {fn:=52} .o (c1 mN<|bJ)
def zb:dS Sx:=kO 55 [oP 0 0] [.box 172 [.eX (.st 14)]] [mK oI [.kept]] fN
theorem pH:SX zb:=fq Tryz.f55 [.tmp 2] {fn:=55} .o (bJ)
def pR:dS Sx:=kO 108 [.agg [.ptr 0 0]] [.box 172 [.eX (.st 14)]] [mK (oS 5) [.now (.box 172 [.eX (.st 14)])]] iq
theorem oW:SX pR:=fq Tryz.f108 [.cell 2 50] {fn:=108} .o (c1 iZ<|bJ)
def pS:dS Sx:=kO 109 [.agg [.ptr 0 0]] [.box 172 [.eX (.st 14)]] [mK (oS 5) [.now (.box 172 [.eX (.st 14)])]] ir
theorem oX:SX pS:=fq Tryz.f109 [.cell 2 50] {fn:=109} .o (c1 iZ<|c1 mM<|bJ)
def pQ:dS Sx:=kO 53 [.agg [.ptr 0 0]] [.box 172 [.eX (.st 14)]] [mK (oS 5) [.now (.box 172 [.eX (.st 14)])]] fp
theorem oV:SX pQ:=fq Tryz.f53 [.cell 2 50] {fn:=53} .o (c1 pH<|c1 jW<|c1 oW<|c1 oX<|c1 nk<|bJ)
def vT:dS Sx:=kO 54 [oP 0 0] [.box 172 [.eX (.st 14)]] [mK oI [.kept]] hZ
theorem vt:SX vT:=fq Tryz.f54 [.tmp 2] {fn:=54} .o (bJ)
def Bi:dS Sx:=kK 19 [oD cT] (.dD [oS 6,oS 4]) mn
theorem Ab:SX Bi:=fq Tryz.f19 [.cell 2 37,.cell 3 31] {pre:=[(2,5,.own 50 (.st 5))],fn:=19} (.b .o (.b .o (.b .o (.b (.b .o (.b .o (.j (JO [] [.box 172 [.eX (.st 14)]] [(0,449)]) .o))) (.b .o (.b (.b .o (.j (JO [] [.box 37 [.eX cI,.eX cI,.eX (.a8 32),.eX (.a8 32),.rw 3 (.st 5)],.box 172 [.eX (.st 14)],.box 37 [.eX cI,.eX cI,.eX (.a8 32),.eX (.a8 32),.rw 4 (.st 5)],.row 50 (.st 5),.row 50 (.st 5)] [(0,257),(1,449),(2,2369)]) (.u (.lp {JO [(7,oD (.int .u64))] [.box 37 [.eX cI,.eX cI,.eX (.a8 32),.eX (.a8 32),.rw 3 (.st 5)],.box 172 [.eX (.st 14)],.box 37 [.eX cI,.eX cI,.eX (.a8 32),.eX (.a8 32),.rw 4 (.st 5)],.row 50 (.st 5),.row 50 (.st 5)] [(0,257),(1,449),(2,2369)]with pre:=[(2,5,.own 50 (.st 5)),(6,5,.own 50 (.st 5))]} (.b (.b (.j (JB 43) .o) .o) .o))))) (.b (.b .o (.j (JO [] [.box 172 [.eX (.st 14)]] [(0,449)]) .o)) .o))))))) (c1 Km<|c1 sH<|c1 jW<|c1 nk<|c1 iZ<|c1 sf<|c1 tY<|c1 oV<|c1 vt<|c1 pH<|c1 mN<|bJ)
def yX:dS Sx:=kK 203 [oS 5] oI eT
theorem jj:SX yX:=fq Tryz.f203 [.tmp 2] {fn:=203} .o (bJ)
def vh:dS Sx:=kK 156 [oS 5] (oS 7) dV
theorem jE:SX vh:=fq Tryz.f156 [.cell 2 66] {fn:=156} .o (c1 jj<|bJ)
def vL:dS Sx:=kK 242 [oS 7] oB gY
theorem vn:SX vL:=fq Tryz.f242 [.tmp 2] {fn:=242} .o (c1 pF<|bJ)
def vg:dS Sx:=kK 243 [oS 5] (oS 7) ly
theorem tZ:SX vg:=fq Tryz.f243 [.cell 2 66] {fn:=243} .o (bJ)
def vM:dS Sx:=kK 202 [oS 5] oI jK
theorem vo:SX vM:=fq Tryz.f202 [.tmp 2] {fn:=202} (.b .o (.b (.b (.j (JB 10) .o) .o) (.b .o (.b .o (.b (.b (.j (JB 32) .o) .o) (.b (.b (.j (JB 45) .o) .o) .o)))))) (c1 jj<|c1 jE<|c1 vn<|c1 tZ<|bJ)
def vi:dS Sx:=kK 154 [oS 6,oS 5] oI (s2 je)
theorem ua:SX vi:=fq Tryz.f154 [.tmp 4] {fn:=154} (.b .o (.b .o (.b .o (.b (.b (.j (JB 23) .o) .o) .o)))) (c1 vo<|c1 jj<|bJ)
def sS:dS Sx:=kK 155 [oS 7,oS 7] (oS 7) (s2 iy)
theorem sE:SX sS:=fq Tryz.f155 [.cell 4 66] {fn:=155} .o (bJ)
def yV:dS Sx:=kK 267 [oS 7,oI] oB (s2 oh)
theorem yo:SX yV:=fq Tryz.f267 [.tmp 4] {fn:=267} .o (bJ)
def za:dS Sx:=kK 244 [oS 5,oI] oB (s2 lB)
theorem yr:SX za:=fq Tryz.f244 [.tmp 4] {fn:=244} .o (c1 jE<|c1 yo<|bJ)
def wY:dS Sx:=kK 204 [oS 6,oI] oI (s2 fW)
theorem wB:SX wY:=fq Tryz.f204 [.tmp 4] {fn:=204} (.b .o (.b (.b .o (.u (.lp (JI 5) .o))) .o)) (c1 yr<|bJ)
def yZ:dS Sx:=kK 157 [oS 6] oI lz
theorem yp:SX yZ:=fq Tryz.f157 [.tmp 2] {fn:=157} (.b .o (.b .o (.b (.b .o (.u (.lp (J [(3,oI),(4,oI)]) (.b .o (.b (.u (.b .o (.b (.b .o (.j (JI 5) .o)) (.b (.j (JB 46) .o) .o)))) .o))))) .o))) (c1 jj<|c1 wB<|bJ)
def vN:dS Sx:=kK 111 [oS 6] (.dD [oI,oI]) fA
theorem vp:SX vN:=fq Tryz.f111 [.tmp 2,.tmp 3] {fn:=111} (.b .o (.b (.b (.j (JB 28) .o) .o) (.b (.b .o (.j {early:=true} (.u (.lp (JI 4) .o)))) (.b (.b .o (.j {early:=true} (.u (.lp (JI 6) (.b .o (.b (.u (.b .o (.u (.lp (JI 7) .o)))) .o)))))) .o)))) (c1 pF<|c1 ua<|c1 jE<|c1 sE<|c1 yp<|bJ)
def vO:dS Sx:=kK 59 [oS 6] oB gZ
theorem nj:SX vO:=fq Tryz.f59 [.tmp 2] {fn:=59} .o (c1 vp<|bJ)
def vP:dS Sx:=kK 58 [oS 6] oB l7
theorem vq:SX vP:=fq Tryz.f58 [.tmp 2] {fn:=58} .o (c1 pG<|c1 nj<|bJ)
def vQ:dS Sx:=kK 22 [oS 6] oB jL
theorem vr:SX vQ:=fq Tryz.f22 [.tmp 2] {fn:=22} .o (c1 vq<|bJ)
def wZ:dS Sx:=kK 23 [oD cT,oS 6] oB (s2 kj)
theorem wC:SX wZ:=fq Tryz.f23 [.tmp 4] {fn:=23} .o (c1 pG<|c1 nj<|bJ)
def sT:dS Sx:=kO 24 [oS 6,oA 0] [.arr 50 (.st 5) false] [mK (oS 6) [.gone]] (s2 kC)
theorem sF:SX sT:=fq Tryz.f24 [.cell 4 37] {pre:=[(4,5,.frz)],fn:=24} .o (bJ)
def Bg:dS Sx:=kK 62 [oI] oB iP
theorem z8:SX Bg:=fq Tryz.f62 [.tmp 2] {fn:=62} .o (c1 nc<|bJ)
def Gn:dS Sx:=kK 167 [oS 5] (oS 15) lR
theorem vC:SX Gn:=fq Tryz.f167 [.cell 2 251] {fn:=167} (.b .o (.b .o (.b (.b .o (.j (JI 3) .o)) .o))) (bJ)
def Bf:dS Sx:=kK 121 [oS 5] oI mj
theorem z7:SX Bf:=fq Tryz.f121 [.tmp 2] {fn:=121} (.b .o (.b (.b (.j (JB 12) .o) .o) (.b .o (.b .o (.b .o (.b (.b .o (.j (JB 4) .o)) .o)))))) (c1 vC<|c1 nc<|bJ)
def yO:dS Sx:=kK 73 [oS 5] (.dD [oS 7,oB]) nY
theorem yj:SX yO:=fq Tryz.f73 [.cell 2 66,.tmp 3] {fn:=73} .o (bJ)
def Gp:dS Sx:=kK 122 [oS 7] oI gB
theorem p9:SX Gp:=fq Tryz.f122 [.tmp 2] {fn:=122} .o (bJ)
def yP:dS Sx:=kK 123 [oS 5] (oS 7) fE
theorem lK:SX yP:=fq Tryz.f123 [.cell 2 66] {fn:=123} .o (c1 vC<|bJ)
def Ct:dS Sx:=kK 63 [oS 6,oS 5] oI (s2 nt)
theorem BA:SX Ct:=fq Tryz.f63 [.tmp 4] {fn:=63} (.b .o (.b .o (.b (.b .o (.b (.j (JB 25) .o) .o)) .o))) (c1 z7<|c1 yj<|c1 p9<|c1 lK<|bJ)
def Bc:dS Sx:=kK 166 [oI] oB mi
theorem z6:SX Bc:=fq Tryz.f166 [.tmp 2] {fn:=166} .o (bJ)
def wW:dS Sx:=kK 119 [oI,oI] oI (s2 mW)
theorem wz:SX wW:=fq Tryz.f119 [.tmp 4] {fn:=119} .o (c1 z6<|bJ)
def yQ:dS Sx:=kO 169 [oI,oI,oP 0 0] [.box 35 [.eX (.sl (.st 5))]] [mK oI [.kept]] (s3 fG)
theorem pE:SX yQ:=fq Tryz.f169 [.tmp 5] {fn:=169} .o (c1 wz<|bJ)
def fw:dS Sx:={f:=260,ins:=[oA 0,oI,oI,.one (.fn 169 [] [.ptr 1 0])],fm:=[.arr 3 cI true,.box 35 [.eX (.sl (.st 5))]],ls:=[(.sl cI),cI,cI,(.sl (.st 5))],pm:=[2,0,1,3],bk:=[1,2,0,3],outs:=[mK (.dD []) [.now (.arr 3 cI true),.kept]],uU:=fun x=>bU x.1 x.2.1 x.2.2.1 x.2.2.2}
theorem fv:SX fw:=fq Tryz.f260 [] {IV:=[128],fn:=260} (.b .o (.u (.lp (JO [(8,oI)] [.arr 3 cI true] [(0,0)]) (.b .o (.b (.u (.b .o (.u (.lp (JO [(9,oI)] [.arr 3 cI true] [(0,0)]) (.b (.b (.j (JB 34) .o) .o) .o))))) .o))))) (c1 pE<|bJ)
def gb:dS Sx:={f:=298,ins:=[oA 0,oI,oI,oI,.one (.fn 169 [] [.ptr 1 0])],fm:=[.arr 3 cI true,.box 35 [.eX (.sl (.st 5))]],ls:=[(.sl cI),cI,cI,cI,(.sl (.st 5))],pm:=[3,0,1,2,4],bk:=[1,2,3,0,4],outs:=[mK (.dD []) [.now (.arr 3 cI true),.kept]],uU:=fun x=>bS x.1 x.2.1 x.2.2.1 x.2.2.2.1 x.2.2.2.2}
theorem fU:SX gb:=fq Tryz.f298 [] {IV:=[128],fn:=298} (.b .o (.u (.lp (JO [(10,oI)] [.arr 3 cI true] [(0,0)]) .o))) (bJ)
def gN:dS Sx:={f:=286,ins:=[oA 0,oI,oI,oI,.one (.fn 169 [] [.ptr 1 0])],fm:=[.arr 3 cI true,.box 35 [.eX (.sl (.st 5))]],ls:=[(.sl cI),cI,cI,cI,(.sl (.st 5))],pm:=[3,0,1,2,4],bk:=[1,2,3,0,4],outs:=[mK (.dD []) [.now (.arr 3 cI true),.kept]],uU:=fun x=>cg x.1 x.2.1 x.2.2.1 x.2.2.2.1 x.2.2.2.2}
theorem gJ:SX gN:=fq Tryz.f286 [] {fn:=286} (.b .o (.b .o (.b (.j (JO [(10,oI)] [.arr 3 cI true] [(0,0)]) (.u (.lp (JO [(10,oI),(11,oI)] [.arr 3 cI true] [(0,0)]) .o))) .o))) (c1 fU<|bJ)
def dC(g:((List Int)×Int×Int×Int×(List bH))->Option (List Int)):dS Sx:={f:=261,ins:=[oA 0,oI,oI,oI,.one (.fn 169 [] [.ptr 1 0])],fm:=[.arr 3 cI true,.box 35 [.eX (.sl (.st 5))]],ls:=[(.sl cI),cI,cI,cI,(.sl (.st 5))],pm:=[3,0,1,2,4],bk:=[1,2,3,0,4],outs:=[{out:=.dD [],gu:=[.now (.arr 3 cI true),.kept],vm:=[(.sl cI)]}],uU:=g}
def gA:dS Sx:={f:=261,ins:=[oA 0,oI,oI,oI,.one (.fn 169 [] [.ptr 1 0])],fm:=[.arr 3 cI true,.box 35 [.eX (.sl (.st 5))]],ls:=[(.sl cI),cI,cI,cI,(.sl (.st 5))],pm:=[3,0,1,2,4],bk:=[1,2,3,0,4],outs:=[mK (.dD []) [.now (.arr 3 cI true),.kept]],uU:=fun x=>b9 x.1 x.2.1 x.2.2.1 x.2.2.2.1 x.2.2.2.2}
theorem gy:SX gA:=P9 (c:=dC fun _=>none) (F:=bZ) fun g hg=>fq (c:=dC (bZ g)) Tryz.f261 [] {IV:=[128],fn:=261} (.b (.b .o (.j {early:=true} (.b (.b .o (.b .o (.b (.j (JI 10) (.u (.lp (J [(10,oI),(11,oI)]) .o))) (.b (.b .o (.u (.lp (JO [(13,oI)] [.arr 3 cI true] [(0,0)]) .o))) .o)))) .o))) (.b (.b .o (.j {early:=true} (.b (.b .o (.b .o (.b (.j (JI 14) (.u (.lp (J [(14,oI),(15,oI)]) .o))) (.b (.b .o (.u (.lp (JO [(17,oI)] [.arr 3 cI true] [(0,0)]) .o))) .o)))) .o))) (.b .o (.b .o (.b .o (.b (.b .o (.j (J [(20,oI),(21,oI)]) .o)) (.b .o (.b (.j (JI 20) (.u (.lp (J [(20,oI),(21,oI)]) .o))) (.b .o (.b (.b (.j (JB 185) .o) (.j (JO [] [.arr 3 cI true] [(0,0)]) .o)) (.b (.b (.j (JB 199) .o) (.j (JO [] [.arr 3 cI true] [(0,0)]) .o)) (.b (.j (JB 213) .o) .o)))))))))))) (c1 hg<|c1 pE<|c1 gJ<|bJ)
def gP:dS Sx:={f:=222,ins:=[oA 0,oI,.one (.fn 169 [] [.ptr 1 0])],fm:=[.arr 3 cI true,.box 35 [.eX (.sl (.st 5))]],ls:=[(.sl cI),cI,(.sl (.st 5))],pm:=[1,0,2],bk:=[1,0,2],outs:=[mK (.dD []) [.now (.arr 3 cI true),.kept]],uU:=fun x=>c7 x.1 x.2.1 x.2.2}
theorem gK:SX gP:=fq Tryz.f222 [] {fn:=222} (.b .o (.b .o (.b (.j (JO [(7,oI)] [.arr 3 cI true] [(0,0)]) (.u (.lp (JO [(7,oI),(8,oI)] [.arr 3 cI true] [(0,0)]) .o))) (.b .o (.u (.lp (JO [(6,oI)] [.arr 3 cI true] [(0,0)]) (.b .o (.u (.b .o (.b (.j (JO [(7,oI)] [.arr 3 cI true] [(0,0)]) (.u (.lp (JO [(7,oI),(8,oI)] [.arr 3 cI true] [(0,0)]) .o))) .o)))))))))) (c1 fv<|c1 gy<|bJ)
def fQ:dS Sx:=kO 168 [oA 0,.one (.fn 169 [] [.ptr 1 0])] [.arr 3 cI true,.box 35 [.eX (.sl (.st 5))]] [mK (.dD []) [.now (.arr 3 cI true),.kept]] (s2 cm)
theorem fM:SX fQ:=fq Tryz.f168 [] {fn:=168} .o (c1 gK<|bJ)
def Cu:dS Sx:=kO 124 [oD (.sl (.st 5))] [] [mK (.one (.fn 170 [] [.ptr 0 0,.ptr 1 0])) [.now (.box 128 [.aw 2]),.now (.box 35 [.eX (.sl (.st 5))]),.now (.arr 3 cI true)]] nu
theorem BB:SX Cu:=fq Tryz.f124 [.tmp 2] {IV:=[128],fn:=124} (.b .o (.b .o (.b (.b .o (.j (JO [] [.arr 3 cI true] [(0,513)]) (.u (.lp (JO [(10,oI)] [.arr 3 cI true] [(0,513)]) .o)))) .o))) (c1 fM<|bJ)
def yR:dS Sx:=kO (E.Z4 64003) [.one (.yl 0),oI,oS 7] [.loop 64003 .ready [(2,oP 1 0),(3,oP 2 0),(4,oP 3 0),(5,oP 4 0)],.box 3 [.eX cI],.box 4 [.eX .bo],.box 3 [.eX cI],.box 3 [.eX cI]] [mK (.one (.tt false)) [.now (.loop 64003 (.done .ret) [(2,oP 1 0),(3,oP 2 0),(4,oP 3 0),(5,oP 4 0)]),.now (.box 3 [.eX cI]),.now (.box 4 [.eX .bo]),.kept,.kept],mK (.one (.tt true)) [.now (.loop 64003 .ready [(2,oP 1 0),(3,oP 2 0),(4,oP 3 0),(5,oP 4 0)]),.kept,.kept,.now (.box 3 [.eX cI]),.now (.box 3 [.eX cI])]] (fun x=>n7 x.1 x.2.1 x.2.2.1 x.2.2.2.1 x.2.2.2.2.1 x.2.2.2.2.2)
theorem yk:SX yR:=yq 64003 31 [10,11] {fn:=64,rd:=true} (.b .o (.u (.b .o (.b (.b (.j (JB 23) .o) (.j (JO [] [.box 3 [.eX cI]] [(0,4)]) .o)) .o)))) (c1 p9<|bJ)
def mU:dS Sx:={f:=170,ins:=[.one (.yl 0),oP 1 0,oP 2 0],fm:=[.loop 64003 .ready [(2,oP 3 0),(3,oP 4 0),(4,oP 5 0),(5,oP 6 0)],.box 128 [.aw 7],.box 35 [.eX (.sl (.st 5))],.box 3 [.eX cI],.box 4 [.eX .bo],.box 3 [.eX cI],.box 3 [.eX cI],.arr 3 cI true],ls:=[(.sl cI),(.sl (.st 5)),cI,.bo,cI,cI],pm:=[5,0,1,2,3,4],bk:=[1,2,3,4,5,0],outs:=[mK (.dD []) [.now (.loop 64003 (.done .ret) [(2,oP 3 0),(3,oP 4 0),(4,oP 5 0),(5,oP 6 0)]),.kept,.kept,.now (.box 3 [.eX cI]),.now (.box 4 [.eX .bo]),.now (.box 3 [.eX cI]),.now (.box 3 [.eX cI]),.kept],mK (.dD []) [.now (.loop 64003 .ready [(2,oP 3 0),(3,oP 4 0),(4,oP 5 0),(5,oP 6 0)]),.kept,.kept,.now (.box 3 [.eX cI]),.now (.box 4 [.eX .bo]),.now (.box 3 [.eX cI]),.now (.box 3 [.eX cI]),.kept]],uU:=fun x=>fH x.1 x.2.1 x.2.2.1 x.2.2.2.1 x.2.2.2.2.1 x.2.2.2.2.2}
theorem mL:SX mU:=fq Tryz.f170 [] {fn:=170} (.b .o (.u (.lp (JO [(8,oI)] [.loop 64003 .ready [(2,oP 1 0),(3,oP 2 0),(4,oP 3 0),(5,oP 4 0)],.box 3 [.eX cI],.box 4 [.eX .bo],.box 3 [.eX cI],.box 3 [.eX cI]] [(0,0),(1,3),(2,4),(3,5),(4,6)]) .o))) (c1 lK<|c1 yk<|bJ)
def EH:dS Sx:=kK 64 [oD (.sl (.st 5))] (.dD [oI,oB]) mC
theorem D9:SX EH:=fq Tryz.f64 [.cell 2 3,.cell 3 4] {fn:=64} .o (c1 BB<|c1 mL<|bJ)
def yU:dS Sx:=kK 171 [oI,oI,oI] (.dD [oS 7,oB]) (s3 og)
theorem yn:SX yU:=fq Tryz.f171 [.cell 6 66,.tmp 7] {fn:=171} .o (bJ)
def yS:dS Sx:=kK 125 [oS 7,oS 7] (.dD [oS 7,oB]) (s2 lu)
theorem ym:SX yS:=fq Tryz.f125 [.cell 4 66,.tmp 5] {fn:=125} .o (c1 p9<|c1 yn<|bJ)
def Bh:dS Sx:=kK 65 [oD (.sl (.st 5))] oI ml
theorem Aa:SX Bh:=fq Tryz.f65 [.tmp 2] {fn:=65} (.b .o (.b (.b .o (.u (.lp (JI 10) (.b .o (.b .o (.b (.u (.b .o (.b .o (.u (.lp (JI 17) .o))))) .o)))))) .o)) (c1 lK<|c1 ym<|bJ)
def EG:dS Sx:=kK 27 [oS 6] (oS 4) jy
theorem oH:SX EG:=fq Tryz.f27 [.cell 2 31] {fn:=27} (.b .o (.b (.b (.j (JB 17) .o) .o) (.b (.b .o (.j {early:=true} (.u (.lp (JI 22) .o)))) .o))) (c1 z8<|c1 BA<|c1 D9<|c1 Aa<|bJ)
def EI:dS Sx:=kK 25 [oD cT] (.dD [oS 6,oS 4]) mD
theorem Ea:SX EI:=fq Tryz.f25 [.cell 2 37,.cell 3 31] {fn:=25} (.b .o (.b .o (.b (.b .o (.j (JO [] [.box 31 [.eX (.st 4)]] [(0,769)]) .o)) .o))) (c1 Ab<|c1 oH<|bJ)
def Cy:dS Sx:=kK 28 [oD cT,oS 6] (oS 4) (s2 jN)
theorem sx:SX Cy:=fq Tryz.f28 [.cell 4 31] {fn:=28} .o (c1 oH<|bJ)
def wX:dS Sx:=kK 26 [oD cT,oS 6] (.dD [oS 6,oS 4]) (s2 iJ)
theorem wA:SX wX:=fq Tryz.f26 [.cell 4 37,.cell 5 31] {fn:=26} .o (c1 sx<|bJ)
def sU:dS Sx:=kK 5 [oD cT,oS 6,.one (.eX .u8)] oB (s3 kD)
theorem sG:SX sU:=fq Tryz.f5 [.tmp 6] {IV:=[35],fn:=5} (.b .o (.b (.b (.j (JB 35) .o) .o) (.b .o (.b .o (.b (.b .o (.j {JO [(7,oA 0),(8,oI)] [.arr 50 (.st 5) false] []with kill:=[40]} .o)) .o))))) (c1 vr<|c1 wC<|c1 Ag<|c1 sF<|c1 Ad<|c1 Ea<|c1 wA<|c1 oH<|c1 sx<|bJ)
end
end Go.Proofs.YtjfkdglgecgjfaaGreat
