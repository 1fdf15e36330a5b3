/- Part of the proof. -/
import Derived.Test.YtekpafdhgkocaaaGreatZEO
namespace Go.Proofs.YtekpafdhgkocaaaGreat
open Go.RowKit G
open E
set_option maxRecDepth 100000
noncomputable section
abbrev cI:Co:=.int .i64
abbrev cT:Co:=.sl .u8
abbrev oD(c:Co):PS:=.one (.da c)
abbrev oI:=oD cI
abbrev oB:=oD .bo
abbrev oP(i j:Nat):PS:=.one (.ptr i j)
abbrev oA(i:Nat):PS:=.one (.aw i)
abbrev oS(n:Nat):PS:=.agg [.da (.st n)]
def cA:CS->List Co| .da c=>[c]| .rw _ c=>[.sl c]|_=>[]
def cB:CS->List Co| .fn _ xs ys=>(xs++ys).flatMap cA|s=>cA s
def cP:PS->List Co| .one s=>cB s| .agg l=>l.flatMap cB|_=>[]
def cQ:PS->List Co| .mf l=>l.flatMap cP|p=>cP p
def cO:OS->List Co| .box _ l=>l.flatMap cB| .arr _ c _=>[.sl c]| .map _ k v=>[.mp k v]| .fk _ _ k c=>[.mp k (.sl c)]| .sJ _ k v _=>[.mp k v]| .loop _ _ l=>l.flatMap fun x=>cQ x.2|_=>[]
def cK:KS->List Co| .now s=>cO s|_=>[]
abbrev lJ(l:List (Nat×PS))(eW:List OS):List Co:=l.flatMap (fun x=>cQ x.2)++eW.flatMap cO
abbrev lC(l:List PS)(eW:List OS):List Co:=l.flatMap cQ++eW.flatMap cO
abbrev lO(p:PS)(eW:List KS):List Co:=cQ p++eW.flatMap cK
def J(l:List (Nat×PS))(h:(Nat.ble l.length 190&&Nat.ble 0 190)=true:=by rfl):JA:={Wc:=l,eW:=[],ls:=lJ l [],JF:=h}
def JO(l:List (Nat×PS))(eW:List OS)(f:List (Nat×Nat))(h:(Nat.ble l.length 190&&Nat.ble eW.length 190)=true:=by rfl):JA:={Wc:=l,eW:=eW,ls:=lJ l eW,fx:=f,JF:=h}
def JI(n:Nat):JA:=J [(n,oI)]
def JB(n:Nat):JA:=J [(n,oB)]
abbrev mO(p:PS):Out:={out:=p,Bo:=lO p []}
abbrev mK(p:PS)(eW:List KS)(h:Nat.ble eW.length 30=true:=by rfl):Out:={out:=p,lB:=eW,Bo:=lO p eW,JF:=h}
abbrev kK(f:FuncId)(l:List PS)(o:PS)(pL:HT Sx (lC l [])->Option (q9 Sx [mO o])):cV Sx:={f:=f,ins:=l,ls:=lC l [],outs:=[mO o],pL:=pL}
abbrev kO(f:FuncId)(l:List PS)(eW:List OS)(os:List Out)(pL:HT Sx (lC l eW)->Option (q9 Sx os))(h:(Nat.ble eW.length 30&&os.all fun o=>Nat.ble eW.length o.lB.length)=true:=by rfl):cV Sx:={f:=f,ins:=l,eW:=eW,ls:=lC l eW,outs:=os,pL:=pL,JF:=h}
abbrev s2{a b d:Type}(f:a->b->d)(x:a×b):d:=f x.1 x.2
abbrev s3{a b c d:Type}(f:a->b->c->d)(x:a×b×c):d:=f x.1 x.2.1 x.2.2
abbrev s4{a b c e d:Type}(f:a->b->c->e->d)(x:a×b×c×e):d:=f x.1 x.2.1 x.2.2.1 x.2.2.2
def Hi:cV Sx:=kK 27 [oS 6] oB uG
theorem GC:SX Hi:=fq Tryz.f27 [.tmp 2] {fn:=27} (.b .o (.b (.b .o (.j {early:=true} (.u (.lp (JI 3) .o)))) .o)) (bS)
def Mm:cV Sx:=kK 159 [] (.agg [.da (.ai 8 .u32),.fQ,.da cI]) (fun _=>I0)
theorem LW:SX Mm:=fq Tryz.f159 [.cell 0 212] {fn:=159} .o (bS)
def US:cV Sx:=kO 89 [] [] [mK (oP 0 0) [.now (.box 215 [.da (.ai 8 .u32),.rw 1 .u8,.da cI]),.now (.row 5 .u8)]] (fun _=>Gu)
theorem LV:SX US:=fq Tryz.f89 [.tmp 0] {pre:=[(0,2,.own 5 .u8)],fn:=89} .o (c1 LW<|bS)
def RH:cV Sx:=kK 252 [] (.agg [.da (.ai 64 .u32)]) (fun _=>Gv)
theorem I1:SX RH:=fq Tryz.f252 [.cell 0 297] {fn:=252} .o (bS)
def zN:cV Sx:=kK 253 [oD (.int .u32),oI] (oD (.int .u32)) (s2 bU)
theorem sy:SX zN:=fq Tryz.f253 [.tmp 4] {fn:=253} .o (bS)
def FD:cV Sx:=kO 221 [oP 0 0,oD cT] [.box 215 [.da (.ai 8 .u32),.rw 1 .u8,.da cI],.row 5 .u8] [mK (.mf []) [.now (.box 215 [.da (.ai 8 .u32),.rw 1 .u8,.da cI]),.now (.row 5 .u8)]] (s4 qE)
theorem Fc:SX FD:=fq Tryz.f221 [] {fn:=221} (.b .o (.b (.b .o (.j (JO [] [.box 296 [.da (.ai 16 .u32)]] [(0,257)]) (.u (.lp (JO [(21,oI)] [.box 296 [.da (.ai 16 .u32)]] [(0,257)]) .o)))) (.b .o (.b (.b .o (.j {JO [] [.box 210 [.da (.ai 8 .u32)]] [(0,897)]with kill:=[4]} (.u (.lp (JO [(65,oI)] [.box 296 [.da (.ai 16 .u32)],.box 210 [.da (.ai 8 .u32)]] [(0,257),(1,897)]) (.b .o (.b .o (.b (.u (.b .o (.b (.b .o (.j (JO [] [.box 296 [.da (.ai 16 .u32)]] [(0,257)]) .o)) .o))) .o))))))) (.b .o (.u (.lp (JO [(182,oI)] [.box 215 [.da (.ai 8 .u32),.rw 1 .u8,.da cI],.row 5 .u8] [(0,0),(1,1)]) .o))))))) (c1 I1<|c1 sy<|bS)
def Ho:cV Sx:=kO 161 [oP 0 0,oD cT] [.box 215 [.da (.ai 8 .u32),.rw 1 .u8,.da cI],.row 5 .u8] [mK (.mf []) [.now (.box 215 [.da (.ai 8 .u32),.rw 2 .u8,.da cI]),.gone,.now (.row 5 .u8)]] (s4 rq)
theorem GJ:SX Ho:=fq Tryz.f161 [] {fn:=161} (.b .o (.b .o (.u (.lp (JO [] [.box 215 [.da (.ai 8 .u32),.rw 1 .u8,.da cI],.row 5 .u8] [(0,0),(1,1281)]) .o)))) (c1 Fc<|bS)
def Hn:cV Sx:=kO 91 [oP 0 0,oD (.sl cT)] [.box 215 [.da (.ai 8 .u32),.rw 1 .u8,.da cI],.row 5 .u8] [mK oI [.now (.box 215 [.da (.ai 8 .u32),.rw 2 .u8,.da cI]),.gone,.now (.row 5 .u8)]] (s4 rp)
theorem zG:SX Hn:=fq Tryz.f91 [.tmp 4] {fn:=91} (.b .o (.b .o (.b .o (.b (.b .o (.j {JO [(0,oP 0 0)] [.box 215 [.da (.ai 8 .u32),.rw 1 .u8,.da cI],.row 5 .u8] [(0,0)]with gone:=[1],kill:=[8,10,11,12,13]} (.u (.lp {JO [(0,oP 0 0),(17,oI)] [.box 215 [.da (.ai 8 .u32),.rw 1 .u8,.da cI],.row 5 .u8] [(0,0)]with gone:=[1],kill:=[8,10,11,12,13]} .o)))) .o)))) (c1 GJ<|bS)
def zO:cV Sx:=kO 77 [oD cT] [] [mK (.one (.rw 0 .u8)) [.now (.row 5 .u8)]] fe
theorem sA:SX zO:=fq Tryz.f77 [.tmp 2] {pre:=[(2,0,.own 5 .u8)],fn:=77} .o (bS)
def EN:cV Sx:=kO 162 [oP 0 0] [.box 215 [.da (.ai 8 .u32),.rw 1 .u8,.da cI],.row 5 .u8] [mK (.agg [.da (.ai 8 .u32),.rw 2 .u8,.da cI]) [.kept,.kept,.now (.row 5 .u8)]] (s3 vO)
theorem Ed:SX EN:=fq Tryz.f162 [.cell 2 212] {fn:=162} .o (c1 sA<|bS)
def EM:cV Sx:=kO 221 [oP 0 0,oD cT] [.box 212 [.da (.ai 8 .u32),.rw 1 .u8,.da cI],.row 5 .u8] [mK (.mf []) [.now (.box 212 [.da (.ai 8 .u32),.rw 1 .u8,.da cI]),.now (.row 5 .u8)]] (s4 AL)
theorem Ec:SX EM:=fq Tryz.f221 [] {fn:=221} (.b .o (.b (.b .o (.j (JO [] [.box 296 [.da (.ai 16 .u32)]] [(0,257)]) (.u (.lp (JO [(21,oI)] [.box 296 [.da (.ai 16 .u32)]] [(0,257)]) .o)))) (.b .o (.b (.b .o (.j {JO [] [.box 210 [.da (.ai 8 .u32)]] [(0,897)]with kill:=[4]} (.u (.lp (JO [(65,oI)] [.box 296 [.da (.ai 16 .u32)],.box 210 [.da (.ai 8 .u32)]] [(0,257),(1,897)]) (.b .o (.b .o (.b (.u (.b .o (.b (.b .o (.j (JO [] [.box 296 [.da (.ai 16 .u32)]] [(0,257)]) .o)) .o))) .o))))))) (.b .o (.u (.lp (JO [(182,oI)] [.box 212 [.da (.ai 8 .u32),.rw 1 .u8,.da cI],.row 5 .u8] [(0,0),(1,1)]) .o))))))) (c1 I1<|c1 sy<|bS)
def FE:cV Sx:=kO 161 [oP 0 0,oD cT] [.box 212 [.da (.ai 8 .u32),.rw 1 .u8,.da cI],.row 5 .u8] [mK (.mf []) [.now (.box 212 [.da (.ai 8 .u32),.rw 2 .u8,.da cI]),.gone,.now (.row 5 .u8)]] (s4 xh)
theorem Fe:SX FE:=fq Tryz.f161 [] {fn:=161} (.b .o (.b .o (.u (.lp (JO [] [.box 212 [.da (.ai 8 .u32),.rw 1 .u8,.da cI],.row 5 .u8] [(0,0),(1,1281)]) .o)))) (c1 Ec<|bS)
def EO:cV Sx:=kO 163 [oP 0 0] [.box 212 [.da (.ai 8 .u32),.rw 1 .u8,.da cI],.row 5 .u8] [mK (.agg [.da (.a8 32)]) [.now (.box 212 [.da (.ai 8 .u32),.rw 2 .u8,.da cI]),.gone,.now (.row 5 .u8)]] (s3 sd)
theorem Ee:SX EO:=fq Tryz.f163 [.cell 2 24] {fn:=163} (.b .o (.b .o (.b .o (.b (.b .o (.j {JO [(4,.one (.rw 0 .u8))] [.row 5 .u8] []with kill:=[22]} (.u (.lp {JO [(4,.one (.rw 0 .u8)),(5,oI)] [.row 5 .u8] []with kill:=[22]} .o)))) (.b .o (.b .o (.b (.b .o (.u (.lp (JO [(38,oI)] [.box 24 [.da (.a8 32)]] [(0,1921)]) .o))) .o))))))) (c1 Fe<|bS)
def KE:cV Sx:=kO 93 [oP 0 0] [.box 215 [.da (.ai 8 .u32),.rw 1 .u8,.da cI],.row 5 .u8] [mK (.agg [.da (.a8 32)]) [.kept,.kept]] (s3 qc)
theorem BX:SX KE:=fq Tryz.f93 [.cell 2 24] {fn:=93} .o (c1 Ed<|c1 Ee<|bS)
def WM:cV Sx:=kK 58 [oD (.sl cT)] (.agg [.da (.a8 32)]) Ib
theorem NB:SX WM:=fq Tryz.f58 [.cell 2 24] {fn:=58} .o (c1 LV<|c1 zG<|c1 BX<|bS)
def I7:cV Sx:=kK 67 [oS 4] (oS 4) qG
theorem vS:SX I7:=fq Tryz.f67 [.cell 2 72] {fn:=67} .o (c1 sA<|bS)
def N1:cV Sx:=kK 83 [oS 6,oD (.sl (.st 4))] (oS 6) (s2 vC)
theorem z5:SX N1:=fq Tryz.f83 [.cell 4 27] {fn:=83} (.b .o (.b .o (.b (.b .o (.u (.lp {JO [(10,oI)] [.box 27 [.da cI,.da cI,.da (.a8 32),.da (.a8 32),.rw 2 (.st 4)],.box 27 [.da cI,.da cI,.da (.a8 32),.da (.a8 32),.rw 3 (.st 4)],.row 72 (.st 4),.row 72 (.st 4)] [(0,257),(1,321)]with pre:=[(2,5,.own 72 (.st 4)),(4,5,.own 72 (.st 4))]} .o))) .o))) (c1 vS<|bS)
def Hm:cV Sx:=kK 82 [oD cT,oD cT,oD (.sl (.st 4))] (oS 6) (s3 uV)
theorem GI:SX Hm:=fq Tryz.f82 [.cell 6 27] {fn:=82} .o (c1 NB<|c1 z5<|bS)
def KC:cV Sx:=kK 193 [oS 13] oB mi
theorem xl:SX KC:=fq Tryz.f193 [.tmp 2] {fn:=193} .o (bS)
def Ja:cV Sx:=kK 119 [oI] oB qH
theorem Ih:SX Ja:=fq Tryz.f119 [.tmp 2] {fn:=119} .o (c1 xl<|bS)
def NX:cV Sx:=kK 149 [oS 4] (oS 16) vB
theorem En:SX NX:=fq Tryz.f149 [.cell 2 200] {fn:=149} (.b .o (.b .o (.b (.b .o (.j (JI 3) .o)) .o))) (bS)
def I5:cV Sx:=kK 194 [oS 4] oI vX
theorem Ic:SX I5:=fq Tryz.f194 [.tmp 2] {fn:=194} (.b .o (.b (.b (.j (JB 12) .o) .o) (.b .o (.b .o (.b .o (.b (.b .o (.j (JB 4) .o)) .o)))))) (c1 En<|c1 xl<|bS)
def G5:cV Sx:=kK 74 [oS 4] (.mf [oS 13,oB]) dU
theorem nY:SX G5:=fq Tryz.f74 [.cell 2 92,.tmp 3] {fn:=74} .o (bS)
def N3:cV Sx:=kK 78 [oS 13] oI fX
theorem ta:SX N3:=fq Tryz.f78 [.tmp 2] {fn:=78} .o (bS)
def G6:cV Sx:=kK 76 [oS 4] (oS 13) gV
theorem nZ:SX G6:=fq Tryz.f76 [.cell 2 92] {fn:=76} .o (c1 En<|bS)
def Kw:cV Sx:=kK 120 [oS 6,oS 4] oI (s2 xz)
theorem Jr:SX Kw:=fq Tryz.f120 [.tmp 4] {fn:=120} (.b .o (.b .o (.b (.b .o (.b (.j (JB 25) .o) .o)) .o))) (c1 Ic<|c1 nY<|c1 ta<|c1 nZ<|bS)
def I4:cV Sx:=kK 146 [oI] oB iX
theorem AN:SX I4:=fq Tryz.f146 [.tmp 2] {fn:=146} .o (bS)
def Fm:cV Sx:=kK 73 [oI,oI] oI (s2 lN)
theorem tP:SX Fm:=fq Tryz.f73 [.tmp 4] {fn:=73} .o (c1 AN<|bS)
def G9:cV Sx:=kO 219 [oI,oI,oP 0 0] [.box 25 [.da (.sl (.st 4))]] [mK oI [.kept]] (s3 mT)
theorem zD:SX G9:=fq Tryz.f219 [.tmp 5] {fn:=219} .o (c1 tP<|bS)
def mF:cV Sx:={f:=279,ins:=[oA 0,oI,oI,.one (.fn 219 [] [.ptr 1 0])],eW:=[.arr 3 cI true,.box 25 [.da (.sl (.st 4))]],ls:=[(.sl cI),cI,cI,(.sl (.st 4))],pm:=[2,0,1,3],bk:=[1,2,0,3],outs:=[mK (.mf []) [.now (.arr 3 cI true),.kept]],pL:=fun x=>cM x.1 x.2.1 x.2.2.1 x.2.2.2}
theorem mz:SX mF:=fq Tryz.f279 [] {lL:=[56],fn:=279} (.b .o (.u (.lp (JO [(8,oI)] [.arr 3 cI true] [(0,0)]) (.b .o (.b (.u (.b .o (.u (.lp (JO [(9,oI)] [.arr 3 cI true] [(0,0)]) (.b (.b (.j (JB 34) .o) .o) .o))))) .o))))) (c1 zD<|bS)
def nG:cV Sx:={f:=293,ins:=[oA 0,oI,oI,oI,.one (.fn 219 [] [.ptr 1 0])],eW:=[.arr 3 cI true,.box 25 [.da (.sl (.st 4))]],ls:=[(.sl cI),cI,cI,cI,(.sl (.st 4))],pm:=[3,0,1,2,4],bk:=[1,2,3,0,4],outs:=[mK (.mf []) [.now (.arr 3 cI true),.kept]],pL:=fun x=>cy x.1 x.2.1 x.2.2.1 x.2.2.2.1 x.2.2.2.2}
theorem nz:SX nG:=fq Tryz.f293 [] {lL:=[56],fn:=293} (.b .o (.u (.lp (JO [(10,oI)] [.arr 3 cI true] [(0,0)]) .o))) (bS)
def oO:cV Sx:={f:=288,ins:=[oA 0,oI,oI,oI,.one (.fn 219 [] [.ptr 1 0])],eW:=[.arr 3 cI true,.box 25 [.da (.sl (.st 4))]],ls:=[(.sl cI),cI,cI,cI,(.sl (.st 4))],pm:=[3,0,1,2,4],bk:=[1,2,3,0,4],outs:=[mK (.mf []) [.now (.arr 3 cI true),.kept]],pL:=fun x=>dm x.1 x.2.1 x.2.2.1 x.2.2.2.1 x.2.2.2.2}
theorem ou:SX oO:=fq Tryz.f288 [] {fn:=288} (.b .o (.b .o (.b (.j (JO [(10,oI)] [.arr 3 cI true] [(0,0)]) (.u (.lp (JO [(10,oI),(11,oI)] [.arr 3 cI true] [(0,0)]) .o))) .o))) (c1 nz<|bS)
def gJ(g:((List Int)×Int×Int×Int×(List bO))->Option (List Int)):cV Sx:={f:=280,ins:=[oA 0,oI,oI,oI,.one (.fn 219 [] [.ptr 1 0])],eW:=[.arr 3 cI true,.box 25 [.da (.sl (.st 4))]],ls:=[(.sl cI),cI,cI,cI,(.sl (.st 4))],pm:=[3,0,1,2,4],bk:=[1,2,3,0,4],outs:=[{out:=.mf [],lB:=[.now (.arr 3 cI true),.kept],Bo:=[(.sl cI)]}],pL:=g}
def n6:cV Sx:={f:=280,ins:=[oA 0,oI,oI,oI,.one (.fn 219 [] [.ptr 1 0])],eW:=[.arr 3 cI true,.box 25 [.da (.sl (.st 4))]],ls:=[(.sl cI),cI,cI,cI,(.sl (.st 4))],pm:=[3,0,1,2,4],bk:=[1,2,3,0,4],outs:=[mK (.mf []) [.now (.arr 3 cI true),.kept]],pL:=fun x=>db x.1 x.2.1 x.2.2.1 x.2.2.2.1 x.2.2.2.2}
theorem n5:SX n6:=Dk (c:=gJ fun _=>none) (F:=cY) fun g hg=>fq (c:=gJ (cY g)) Tryz.f280 [] {lL:=[56],fn:=280} (.b (.b .o (.j {early:=true} (.b (.b .o (.b .o (.b (.j (JI 10) (.u (.lp (J [(10,oI),(11,oI)]) .o))) (.b (.b .o (.u (.lp (JO [(13,oI)] [.arr 3 cI true] [(0,0)]) .o))) .o)))) .o))) (.b (.b .o (.j {early:=true} (.b (.b .o (.b .o (.b (.j (JI 14) (.u (.lp (J [(14,oI),(15,oI)]) .o))) (.b (.b .o (.u (.lp (JO [(17,oI)] [.arr 3 cI true] [(0,0)]) .o))) .o)))) .o))) (.b .o (.b .o (.b .o (.b (.b .o (.j (J [(20,oI),(21,oI)]) .o)) (.b .o (.b (.j (JI 20) (.u (.lp (J [(20,oI),(21,oI)]) .o))) (.b .o (.b (.b (.j (JB 185) .o) (.j (JO [] [.arr 3 cI true] [(0,0)]) .o)) (.b (.b (.j (JB 199) .o) (.j (JO [] [.arr 3 cI true] [(0,0)]) .o)) (.b (.j (JB 213) .o) .o)))))))))))) (c1 hg<|c1 zD<|c1 ou<|bS)
def oQ:cV Sx:={f:=251,ins:=[oA 0,oI,.one (.fn 219 [] [.ptr 1 0])],eW:=[.arr 3 cI true,.box 25 [.da (.sl (.st 4))]],ls:=[(.sl cI),cI,(.sl (.st 4))],pm:=[1,0,2],bk:=[1,0,2],outs:=[mK (.mf []) [.now (.arr 3 cI true),.kept]],pL:=fun x=>fg x.1 x.2.1 x.2.2}
theorem ox:SX oQ:=fq Tryz.f251 [] {fn:=251} (.b .o (.b .o (.b (.j (JO [(7,oI)] [.arr 3 cI true] [(0,0)]) (.u (.lp (JO [(7,oI),(8,oI)] [.arr 3 cI true] [(0,0)]) .o))) (.b .o (.u (.lp (JO [(6,oI)] [.arr 3 cI true] [(0,0)]) (.b .o (.u (.b .o (.b (.j (JO [(7,oI)] [.arr 3 cI true] [(0,0)]) (.u (.lp (JO [(7,oI),(8,oI)] [.arr 3 cI true] [(0,0)]) .o))) .o)))))))))) (c1 mz<|c1 n5<|bS)
def nr:cV Sx:=kO 218 [oA 0,.one (.fn 219 [] [.ptr 1 0])] [.arr 3 cI true,.box 25 [.da (.sl (.st 4))]] [mK (.mf []) [.now (.arr 3 cI true),.kept]] (s2 dr)
theorem nf:SX nr:=fq Tryz.f218 [] {fn:=218} .o (c1 ox<|bS)
def Kx:cV Sx:=kO 160 [oD (.sl (.st 4))] [] [mK (.one (.fn 220 [] [.ptr 0 0,.ptr 1 0])) [.now (.box 56 [.aw 2]),.now (.box 25 [.da (.sl (.st 4))]),.now (.arr 3 cI true)]] pZ
theorem BV:SX Kx:=fq Tryz.f160 [.tmp 2] {lL:=[56],fn:=160} (.b .o (.b .o (.b (.b .o (.j (JO [] [.arr 3 cI true] [(0,513)]) (.u (.lp (JO [(10,oI)] [.arr 3 cI true] [(0,513)]) .o)))) .o))) (c1 nf<|bS)
def Ha:cV Sx:=kO (E.Y5 121003) [.one (.yl 0),oI,oS 13] [.loop 121003 .ready [(2,oP 1 0),(3,oP 2 0),(4,oP 3 0),(5,oP 4 0)],.box 3 [.da cI],.box 4 [.da .bo],.box 3 [.da cI],.box 3 [.da cI]] [mK (.one (.tt false)) [.now (.loop 121003 (.done .ret) [(2,oP 1 0),(3,oP 2 0),(4,oP 3 0),(5,oP 4 0)]),.now (.box 3 [.da cI]),.now (.box 4 [.da .bo]),.kept,.kept],mK (.one (.tt true)) [.now (.loop 121003 .ready [(2,oP 1 0),(3,oP 2 0),(4,oP 3 0),(5,oP 4 0)]),.kept,.kept,.now (.box 3 [.da cI]),.now (.box 3 [.da cI])]] (fun x=>ym x.1 x.2.1 x.2.2.1 x.2.2.2.1 x.2.2.2.2.1 x.2.2.2.2.2)
theorem Gx:SX Ha:=yq 121003 31 [10,11] {fn:=121,rd:=true} (.b .o (.u (.b .o (.b (.b (.j (JB 23) .o) (.j (JO [] [.box 3 [.da cI]] [(0,4)]) .o)) .o)))) (c1 ta<|bS)
def wT:cV Sx:={f:=220,ins:=[.one (.yl 0),oP 1 0,oP 2 0],eW:=[.loop 121003 .ready [(2,oP 3 0),(3,oP 4 0),(4,oP 5 0),(5,oP 6 0)],.box 56 [.aw 7],.box 25 [.da (.sl (.st 4))],.box 3 [.da cI],.box 4 [.da .bo],.box 3 [.da cI],.box 3 [.da cI],.arr 3 cI true],ls:=[(.sl cI),(.sl (.st 4)),cI,.bo,cI,cI],pm:=[5,0,1,2,3,4],bk:=[1,2,3,4,5,0],outs:=[mK (.mf []) [.now (.loop 121003 (.done .ret) [(2,oP 3 0),(3,oP 4 0),(4,oP 5 0),(5,oP 6 0)]),.kept,.kept,.now (.box 3 [.da cI]),.now (.box 4 [.da .bo]),.now (.box 3 [.da cI]),.now (.box 3 [.da cI]),.kept],mK (.mf []) [.now (.loop 121003 .ready [(2,oP 3 0),(3,oP 4 0),(4,oP 5 0),(5,oP 6 0)]),.kept,.kept,.now (.box 3 [.da cI]),.now (.box 4 [.da .bo]),.now (.box 3 [.da cI]),.now (.box 3 [.da cI]),.kept]],pL:=fun x=>mU x.1 x.2.1 x.2.2.1 x.2.2.2.1 x.2.2.2.2.1 x.2.2.2.2.2}
theorem wI:SX wT:=fq Tryz.f220 [] {fn:=220} (.b .o (.u (.lp (JO [(8,oI)] [.loop 121003 .ready [(2,oP 1 0),(3,oP 2 0),(4,oP 3 0),(5,oP 4 0)],.box 3 [.da cI],.box 4 [.da .bo],.box 3 [.da cI],.box 3 [.da cI]] [(0,0),(1,3),(2,4),(3,5),(4,6)]) .o))) (c1 nZ<|c1 Gx<|bS)
def Mi:cV Sx:=kK 121 [oD (.sl (.st 4))] (.mf [oI,oB]) wB
theorem LU:SX Mi:=fq Tryz.f121 [.cell 2 3,.cell 3 4] {fn:=121} .o (c1 BV<|c1 wI<|bS)
def Hd:cV Sx:=kK 201 [oI,oI,oI] (.mf [oS 13,oB]) (s3 rk)
theorem Gz:SX Hd:=fq Tryz.f201 [.cell 6 92,.tmp 7] {fn:=201} .o (bS)
def Hc:cV Sx:=kK 138 [oS 13,oS 13] (.mf [oS 13,oB]) (s2 gX)
theorem zE:SX Hc:=fq Tryz.f138 [.cell 4 92,.tmp 5] {fn:=138} .o (c1 ta<|c1 Gz<|bS)
def Jb:cV Sx:=kK 122 [oD (.sl (.st 4))] oI vZ
theorem Ii:SX Jb:=fq Tryz.f122 [.tmp 2] {fn:=122} (.b .o (.b (.b .o (.u (.lp (JI 10) (.b .o (.b .o (.b (.u (.b .o (.b .o (.u (.lp (JI 17) .o))))) .o)))))) .o)) (c1 nZ<|c1 zE<|bS)
def Mh:cV Sx:=kK 55 [oS 6] (oS 8) wA
theorem LR:SX Mh:=fq Tryz.f55 [.cell 2 30] {fn:=55} (.b .o (.b (.b (.j (JB 17) .o) .o) (.b (.b .o (.j {early:=true} (.u (.lp (JI 22) .o)))) .o))) (c1 Ih<|c1 Jr<|c1 LU<|c1 Ii<|bS)
def I9:cV Sx:=kO (E.Y5 90003) [.one (.yl 0),oI,oS 13] [.loop 90003 .ready [(1,oP 1 0),(3,oP 2 0)],.box 27 [.da (.st 6)],.box 25 [.rw 3 (.st 4)],.row 72 (.st 4)] [mK (.one (.tt true)) [.now (.loop 90003 .ready [(1,oP 1 0),(3,oP 2 0)]),.kept,.now (.box 25 [.rw 4 (.st 4)]),.gone,.now (.row 72 (.st 4))]] (s4 zU)
theorem Ig:SX I9:=yq 90003 21 [8,9] {fn:=90,rd:=true} (.b .o .o) (bS)
def xv:cV Sx:={f:=220,ins:=[.one (.yl 0),oP 1 0,oP 2 0],eW:=[.loop 90003 .ready [(1,oP 3 0),(3,oP 4 0)],.box 56 [.aw 5],.box 25 [.da (.sl (.st 4))],.box 27 [.da (.st 6)],.box 25 [.rw 6 (.st 4)],.arr 3 cI true,.row 72 (.st 4)],ls:=[(.sl cI),(.sl (.st 4)),(.st 6),(.sl (.st 4))],pm:=[3,0,1,2],bk:=[1,2,3,0],outs:=[mK (.mf []) [.now (.loop 90003 .ready [(1,oP 3 0),(3,oP 4 0)]),.kept,.kept,.now (.box 27 [.da (.st 6)]),.now (.box 25 [.rw 7 (.st 4)]),.kept,.gone,.now (.row 72 (.st 4))]],pL:=fun x=>jE x.1 x.2.1 x.2.2.1 x.2.2.2}
theorem xj:SX xv:=fq Tryz.f220 [] {fn:=220} (.b .o (.u (.lp {JO [(8,oI)] [.loop 90003 .ready [(1,oP 1 0),(3,oP 2 0)],.box 27 [.da (.st 6)],.box 25 [.rw 3 (.st 4)],.row 72 (.st 4)] [(0,0),(1,3),(2,4)]with gone:=[6]} .o))) (c1 nZ<|c1 Ig<|bS)
def NZ:cV Sx:=kK 90 [oS 6] (oS 6) yk
theorem Mv:SX NZ:=fq Tryz.f90 [.cell 2 27] {fn:=90} (.b .o (.b .o (.b (.b .o (.u (.z [(3,1,.own 72 (.st 4))] .o))) .o))) (c1 BV<|c1 xj<|c1 z5<|bS)
def Ji:cV Sx:=kK 92 [oD cT,oS 4] (oD cT) (s2 wg)
theorem Io:SX Ji:=fq Tryz.f92 [.tmp 4] {fn:=92} .o (c1 nY<|bS)
def KD:cV Sx:=kK 39 [oD cT,oS 6] (oS 8) (s2 sc)
theorem Jv:SX KD:=fq Tryz.f39 [.cell 4 30] {fn:=39} (.b .o (.b .o (.b .o (.b .o (.b (.b .o (.j {JO [(6,oP 0 0)] [.box 215 [.da (.ai 8 .u32),.rw 1 .u8,.da cI],.row 5 .u8] [(0,1665)]with kill:=[32]} (.u (.lp {JO [(6,oP 0 0),(37,oI)] [.box 215 [.da (.ai 8 .u32),.rw 1 .u8,.da cI],.row 5 .u8] [(0,1665)]with kill:=[32]} .o)))) .o))))) (c1 LR<|c1 NB<|c1 LV<|c1 Mv<|c1 Io<|c1 zG<|c1 BX<|bS)
def Mj:cV Sx:=kO 181 [oI] [] [mK (oP 0 0) [.now (.box 243 [.da cI,.nT 1,.nT 2,.nT 3]),.now (.map 240 (.st 11) .bo),.now (.fk 241 3 cI cI),.now (.fk 241 3 cI cI)]] ua
theorem CW:SX Mj:=fq Tryz.f181 [.tmp 2] {fn:=181} (.b .o (.b (.b (.j (JB 8) .o) .o) .o)) (bS)
def FC:cV Sx:=kK 177 [oD (.int .u64)] oI BS
theorem Fb:SX FC:=fq Tryz.f177 [.tmp 2] {fn:=177} (.b .o (.b (.b .o (.j (J [(0,oD (.int .u64)),(2,oI)]) .o)) (.b (.b .o (.j (J [(0,oD (.int .u64)),(2,oI)]) .o)) (.b (.b .o (.j (J [(0,oD (.int .u64)),(2,oI)]) .o)) .o)))) (bS)
def Jh:cV Sx:=kK 100 [oD (.int .u64)] oI mC
theorem so:SX Jh:=fq Tryz.f100 [.tmp 2] {fn:=100} .o (c1 Fb<|bS)
def Ml:cV Sx:=kK 199 [oS 19,oS 19] oI (s2 eL)
theorem nc:SX Ml:=fq Tryz.f199 [.tmp 4] {fn:=199} .o (c1 tP<|bS)
def kT:cV Sx:={f:=256,ins:=[oA 0,oI,oI,.one (.fn 199 [] [])],eW:=[.arr 255 (.st 19) true],ls:=[(.sl (.st 19)),cI,cI],pm:=[2,0,1],bk:=[1,2,0],outs:=[mK (.mf []) [.now (.arr 255 (.st 19) true)]],pL:=fun x=>fz x.1 x.2.1 x.2.2}
theorem kL:SX kT:=fq Tryz.f256 [] {lL:=[251],fn:=256} (.b .o (.u (.lp (JO [(8,oI)] [.arr 255 (.st 19) true] [(0,0)]) (.b .o (.b (.u (.b .o (.u (.lp (JO [(9,oI)] [.arr 255 (.st 19) true] [(0,0)]) (.b (.b (.j (JB 34) .o) .o) .o))))) .o))))) (c1 nc<|bS)
def mG:cV Sx:={f:=281,ins:=[oA 0,oI,oI,oI,.one (.fn 199 [] [])],eW:=[.arr 255 (.st 19) true],ls:=[(.sl (.st 19)),cI,cI,cI],pm:=[3,0,1,2],bk:=[1,2,3,0],outs:=[mK (.mf []) [.now (.arr 255 (.st 19) true)]],pL:=fun x=>eb x.1 x.2.1 x.2.2.1 x.2.2.2}
theorem mA:SX mG:=fq Tryz.f281 [] {lL:=[251],fn:=281} (.b .o (.u (.lp (JO [(10,oI)] [.arr 255 (.st 19) true] [(0,0)]) (.u (.b .o (.b .o (.b (.b (.j (JB 40) .o) (.j (JI 11) .o)) .o))))))) (c1 nc<|bS)
def mE:cV Sx:={f:=257,ins:=[oA 0,oI,oI,.one (.fn 199 [] [])],eW:=[.arr 255 (.st 19) true],ls:=[(.sl (.st 19)),cI,cI],pm:=[2,0,1],bk:=[1,2,0],outs:=[mK (.mf []) [.now (.arr 255 (.st 19) true)]],pL:=fun x=>gl x.1 x.2.1 x.2.2}
theorem my:SX mE:=fq Tryz.f257 [] {lL:=[251],fn:=257} (.b .o (.b .o (.b .o (.b (.b .o (.j (JO [] [.arr 255 (.st 19) true] [(0,0)]) (.u (.lp (JO [(11,oI)] [.arr 255 (.st 19) true] [(0,0)]) .o)))) (.b .o (.u (.lp (JO [(12,oI)] [.arr 255 (.st 19) true] [(0,0)]) .o))))))) (c1 mA<|bS)
def Al:cV Sx:=kK 224 [oI] (oD (.int .u64)) fG
theorem oe:SX Al:=fq Tryz.f224 [.tmp 2] {fn:=224} .o (c1 so<|bS)
def A9:cV Sx:=kO 225 [oP 0 0] [.box 277 [.da (.int .u64)]] [mK (oD (.int .u64)) [.now (.box 277 [.da (.int .u64)])]] ik
theorem pK:SX A9:=fq Tryz.f225 [.tmp 2] {fn:=225} .o (bS)
def kQ:cV Sx:={f:=258,ins:=[oA 0,oI,oI,.one (.fn 199 [] [])],eW:=[.arr 255 (.st 19) true],ls:=[(.sl (.st 19)),cI,cI],pm:=[2,0,1],bk:=[1,2,0],outs:=[mK (.mf []) [.now (.arr 255 (.st 19) true)]],pL:=fun x=>fy x.1 x.2.1 x.2.2}
theorem kI:SX kQ:=fq Tryz.f258 [] {lL:=[251],fn:=258} (.b .o (.b .o (.b (.b .o (.b .o (.b .o (.u (.lp (JO [(11,oI)] [.arr 255 (.st 19) true,.box 277 [.da (.int .u64)]] [(0,0),(1,769)]) (.b .o (.b (.u (.b .o (.b (.b .o (.j (JI 12) .o)) .o))) .o))))))) .o))) (c1 oe<|c1 pK<|bS)
def nt:cV Sx:={f:=289,ins:=[oA 0,oI,oI,oP 1 0,.one (.fn 199 [] [])],eW:=[.arr 255 (.st 19) true,.box 3 [.da cI]],ls:=[(.sl (.st 19)),cI,cI,cI],pm:=[2,0,1,3],bk:=[1,2,0,3],outs:=[mK (.mf [oI,oI]) [.kept,.now (.box 3 [.da cI])]],pL:=fun x=>dt x.1 x.2.1 x.2.2.1 x.2.2.2}
theorem ng:SX nt:=fq Tryz.f289 [.tmp 10,.tmp 11] {fn:=289} .o (c1 nc<|bS)
def ns:cV Sx:={f:=283,ins:=[oA 0,oI,oI,oI,oP 1 0,.one (.fn 199 [] [])],eW:=[.arr 255 (.st 19) true,.box 3 [.da cI]],ls:=[(.sl (.st 19)),cI,cI,cI,cI],pm:=[3,0,1,2,4],bk:=[1,2,3,0,4],outs:=[mK oI [.kept,.now (.box 3 [.da cI])]],pL:=fun x=>ey x.1 x.2.1 x.2.2.1 x.2.2.2.1 x.2.2.2.2}
theorem gj:SX ns:=fq Tryz.f283 [.tmp 12] {fn:=283} .o (c1 ng<|bS)
def kq:cV Sx:={f:=282,ins:=[oA 0,oI,oP 1 0,.one (.fn 199 [] [])],eW:=[.arr 255 (.st 19) true,.box 3 [.da cI]],ls:=[(.sl (.st 19)),cI,cI],pm:=[1,0,2],bk:=[1,0,2],outs:=[mK oI [.kept,.now (.box 3 [.da cI])]],pL:=fun x=>cW x.1 x.2.1 x.2.2}
theorem kg:SX kq:=fq Tryz.f282 [.tmp 8] {fn:=282} .o (c1 gj<|bS)
def lM:cV Sx:={f:=259,ins:=[oA 0,oI,oI,.one (.fn 199 [] [])],eW:=[.arr 255 (.st 19) true],ls:=[(.sl (.st 19)),cI,cI],pm:=[2,0,1],bk:=[1,2,0],outs:=[mK (.mf [oI,oI]) [.kept]],pL:=fun x=>fN x.1 x.2.1 x.2.2}
theorem lF:SX lM:=fq Tryz.f259 [.tmp 8,.tmp 9] {fn:=259} (.b .o (.b .o (.b .o (.b .o (.b .o (.b .o (.b (.b .o (.j (JO [(13,oI)] [.box 3 [.da cI]] [(0,641)]) (.b (.b (.b .o (.j (JO [(12,oI),(13,oI),(14,oI)] [.box 3 [.da cI]] [(0,641)]) .o)) .o) .o))) .o))))))) (c1 kg<|c1 gj<|bS)
def lz:cV Sx:={f:=260,ins:=[oA 0,oI,oI,.one (.fn 199 [] [])],eW:=[.arr 255 (.st 19) true],ls:=[(.sl (.st 19)),cI,cI],pm:=[2,0,1],bk:=[1,2,0],outs:=[mK (.mf []) [.now (.arr 255 (.st 19) true)]],pL:=fun x=>fC x.1 x.2.1 x.2.2}
theorem lr:SX lz:=fq Tryz.f260 [] {lL:=[251],fn:=260} (.b .o (.b .o (.u (.lp (JO [(8,oI),(9,oI)] [.arr 255 (.st 19) true] [(0,0)]) .o)))) (bS)
def iO:cV Sx:={f:=261,ins:=[oA 0,oI,oI,.one (.fn 199 [] [])],eW:=[.arr 255 (.st 19) true],ls:=[(.sl (.st 19)),cI,cI],pm:=[2,0,1],bk:=[1,2,0],outs:=[mK oB [.now (.arr 255 (.st 19) true)]],pL:=fun x=>eB x.1 x.2.1 x.2.2}
theorem iJ:SX iO:=fq Tryz.f261 [.tmp 8] {lL:=[251],fn:=261} (.b .o (.b .o (.b (.b .o (.u (.lp (JO [(9,oI),(10,oI)] [.arr 255 (.st 19) true] [(0,0)]) (.b .o (.b (.u (.b (.j (JI 9) (.u (.lp (JI 9) (.b (.b (.j (JB 36) .o) .o) .o)))) (.b .o (.b .o (.b .o (.b (.b .o (.j (JO [] [.arr 255 (.st 19) true] [(0,0)]) (.b (.b .o (.u (.lp (JO [(11,oI)] [.arr 255 (.st 19) true] [(0,0)]) .o))) .o))) (.b .o (.b (.b .o (.u (.lp (JO [(12,oI)] [.arr 255 (.st 19) true] [(0,0)]) .o))) .o)))))))) .o))))) .o))) (c1 nc<|bS)
def kr:cV Sx:={f:=262,ins:=[oA 0,oI,oI,oI,.one (.fn 199 [] [])],eW:=[.arr 255 (.st 19) true],ls:=[(.sl (.st 19)),cI,cI,cI],pm:=[3,0,1,2],bk:=[1,2,3,0],outs:=[mK oI [.now (.arr 255 (.st 19) true)]],pL:=fun x=>fj x.1 x.2.1 x.2.2.1 x.2.2.2}
theorem kh:SX kr:=fq Tryz.f262 [.tmp 10] {lL:=[251],fn:=262} (.b .o (.b .o (.b .o (.b (.u (.lp (JO [(11,oI),(12,oI)] [.arr 255 (.st 19) true] [(0,0)]) (.u (.b (.j (JI 11) (.u (.lp (JI 11) (.b (.b (.j (JB 47) .o) .o) .o)))) (.b (.j (JI 12) (.u (.lp (JI 12) (.b (.b (.j (JB 65) .o) .o) .o)))) .o))))) .o)))) (c1 nc<|bS)
def mg:cV Sx:={f:=263,ins:=[oA 0,oI,oI,oI,.one (.fn 199 [] [])],eW:=[.arr 255 (.st 19) true],ls:=[(.sl (.st 19)),cI,cI,cI],pm:=[3,0,1,2],bk:=[1,2,3,0],outs:=[mK (.mf [oI,oB]) [.now (.arr 255 (.st 19) true)]],pL:=fun x=>gb x.1 x.2.1 x.2.2.1 x.2.2.2}
theorem me:SX mg:=fq Tryz.f263 [.tmp 10,.tmp 11] {lL:=[251],fn:=263} (.b .o (.b .o (.b .o (.b (.j (JI 12) (.u (.lp (JI 12) (.b (.b (.j (JB 47) .o) .o) .o)))) (.b (.j (JI 13) (.u (.lp (JI 13) (.b (.b (.j (JB 66) .o) .o) .o)))) (.b .o (.b .o (.b .o (.b .o (.b (.j (JO [(13,oI)] [.arr 255 (.st 19) true] [(0,0)]) (.u (.lp (JO [(12,oI),(13,oI)] [.arr 255 (.st 19) true] [(0,0)]) (.u (.b (.j (JI 12) (.u (.lp (JI 12) (.b (.b (.j (JB 120) .o) .o) .o)))) (.b (.j (JI 13) (.u (.lp (JI 13) (.b (.b (.j (JB 139) .o) .o) .o)))) .o)))))) .o)))))))))) (c1 nc<|bS)
def fR(g:((List bR)×Int×Int×Int)->Option (List bR)):cV Sx:={f:=236,ins:=[oA 0,oI,oI,oI,.one (.fn 199 [] [])],eW:=[.arr 255 (.st 19) true],ls:=[(.sl (.st 19)),cI,cI,cI],pm:=[3,0,1,2],bk:=[1,2,3,0],outs:=[{out:=.mf [],lB:=[.now (.arr 255 (.st 19) true)],Bo:=[(.sl (.st 19))]}],pL:=g}
def mQ:cV Sx:={f:=236,ins:=[oA 0,oI,oI,oI,.one (.fn 199 [] [])],eW:=[.arr 255 (.st 19) true],ls:=[(.sl (.st 19)),cI,cI,cI],pm:=[3,0,1,2],bk:=[1,2,3,0],outs:=[mK (.mf []) [.now (.arr 255 (.st 19) true)]],pL:=fun x=>gz x.1 x.2.1 x.2.2.1 x.2.2.2}
theorem mM:SX mQ:=Dk (c:=fR fun _=>none) (F:=dW) fun g hg=>fq (c:=fR (dW g)) Tryz.f236 [] {fn:=236} (.b .o (.b .o (.u (.lp (JO [(1,oI),(2,oI),(3,oI),(10,oB),(11,oB)] [.arr 255 (.st 19) true] [(0,0)]) (.u (.b .o (.b .o (.b .o (.b (.b .o (.j (JO [(3,oI)] [.arr 255 (.st 19) true] [(0,0)]) .o)) (.b .o (.b (.b .o (.j (JO [(13,oI),(14,oI)] [.arr 255 (.st 19) true] [(0,0)]) .o)) (.b (.b (.j (JB 75) .o) (.j {JO [] [.arr 255 (.st 19) true] [(0,0)]with early:=true} .o)) (.b (.b (.j (JB 97) .o) .o) .o))))))))))))) (c1 hg<|c1 kL<|c1 my<|c1 kI<|c1 lF<|c1 lr<|c1 iJ<|c1 nc<|c1 kh<|c1 me<|bS)
def jS:cV Sx:=kO 198 [oA 0,.one (.fn 199 [] [])] [.arr 255 (.st 19) true] [mK (.mf []) [.now (.arr 255 (.st 19) true)]] cU
theorem jP:SX jS:=fq Tryz.f198 [] {lL:=[251],fn:=198} .o (c1 so<|c1 mM<|bS)
def PJ:cV Sx:=kO 136 [oD (.sl (.st 13))] [] [mO (.one (.l7)),mK (oP 0 0) [.now (.box 253 [.aw 1]),.now (.arr 255 (.st 19) true)]] Dm
theorem O4:SX PJ:=fq Tryz.f136 [.tmp 2] {lL:=[251],fn:=136} (.b .o (.b .o (.b (.b .o (.j {JO [] [.box 253 [.aw 1],.arr 255 (.st 19) true] [(0,385)]with early:=true} (.u (.lp {JO [(11,oI)] [.box 253 [.aw 1],.arr 255 (.st 19) true] [(0,385)]with pre:=[(3,1,.arr 255 (.st 19))]} (.b .o (.b .o (.b (.u (.b .o (.b (.b (.j (JB 23) .o) .o) .o))) .o))))))) (.b .o (.b (.b .o (.u (.lp (JI 47) (.b .o (.b .o (.b (.u (.b .o (.b (.j (JB 73) .o) .o))) .o)))))) .o))))) (c1 xl<|c1 jP<|c1 ta<|bS)
def Ev:cV Sx:=kO 182 [oD (.sl (.st 4))] [] [mO (.one (.l7)),mK (oP 0 0) [.now (.box 253 [.aw 1]),.now (.arr 255 (.st 19) true)]] rS
theorem D1:SX Ev:=fq Tryz.f182 [.tmp 2] {fn:=182} (.b .o (.b .o (.b (.b .o (.j (JO [(3,.one (.rw 0 (.st 13)))] [.row 92 (.st 13)] []) (.u (.lp {JO [(3,.one (.rw 0 (.st 13))),(8,oI)] [.row 92 (.st 13)] []with pre:=[(3,0,.own 92 (.st 13))]} .o)))) .o))) (c1 nZ<|c1 O4<|bS)
def xw:cV Sx:=kO 200 [.one (.l7),oS 13] [] [mK (.one (.fn 237 [] [.ptr 0 0,.ptr 1 0])) [.now (.box 187 [.l7]),.now (.box 92 [.da (.st 13)])]] sv
theorem xm:SX xw:=fq Tryz.f200 [.tmp 4] {fn:=200} .o (bS)
def A4:cV Sx:=kK 239 [.one (.l7)] oI (fun _=>rl)
theorem uf:SX A4:=fq Tryz.f239 [.tmp 2] {fn:=239} .o (bS)
def uj:cV Sx:=kO 264 [oI,.one (.fn 265 [] [.ptr 0 0,.ptr 1 0])] [.box 187 [.l7],.box 3 [.da cI]] [mK oI [.kept,.kept]] (s2 oq)
theorem tU:SX uj:=fq Tryz.f264 [.tmp 4] {fn:=264} (.b .o (.b .o (.b (.u (.lp (J [(5,oI),(6,oI)]) .o)) .o))) (bS)
def zM:cV Sx:=kK 238 [.one (.l7),oI] oI uN
theorem ze:SX zM:=fq Tryz.f238 [.tmp 4] {fn:=238} .o (c1 uf<|c1 tU<|bS)
def qq:cV Sx:=kO 237 [.one (.yl 0),oP 1 0,oP 2 0] [.loop 137003 .ready [(5,oP 3 0)],.box 187 [.l7],.box 92 [.da (.st 13)],.box 56 [.rw 4 cI],.row 3 cI] [mK (.mf []) [.kept,.kept,.kept,.kept,.kept]] (s2 km)
theorem qj:SX qq:=fq Tryz.f237 [] {fn:=237} (.b .o (.u (.lp (JI 4) .o))) (c1 ze<|c1 uf<|bS)
def Aj:cV Sx:=kO 137 [.one (.l7),oS 13] [] [mK (.one (.rw 0 cI)) [.now (.row 3 cI)]] vq
theorem z8:SX Aj:=fq Tryz.f137 [.tmp 4] {fn:=137} (.b .o (.b .o (.b (.b .o (.u (.z [(5,1,.own 3 cI)] .o))) .o))) (c1 xm<|c1 qj<|bS)
def DM:cV Sx:=kO 242 [oP 0 0] [.box 243 [.da cI,.nT 1,.nT 2,.nT 3],.map 240 (.st 11) .bo,.fk 241 3 cI cI,.fk 241 3 cI cI] [mK oI [.kept,.kept,.kept,.kept]] (s4 gL)
theorem rC:SX DM:=fq Tryz.f242 [.tmp 2] {fn:=242} .o (bS)
def A3:cV Sx:=kO 231 [oP 0 0,oI] [.box 243 [.da cI,.nT 1,.nT 2,.nT 3],.map 240 (.st 11) .bo,.fk 241 3 cI cI,.fk 241 3 cI cI] [mK oB [.kept,.kept,.kept,.kept]] (fun x=>kW x.1 x.2.1 x.2.2.1 x.2.2.2.1 x.2.2.2.2)
theorem AP:SX A3:=fq Tryz.f231 [.tmp 4] {fn:=231} .o (c1 rC<|bS)
def DL:cV Sx:=kO 183 [oP 0 0,oD (.sl (.st 11))] [.box 243 [.da cI,.nT 1,.nT 2,.nT 3],.map 240 (.st 11) .bo,.fk 241 3 cI cI,.fk 241 3 cI cI] [mK oI [.kept,.now (.map 240 (.st 11) .bo),.now (.fk 241 3 cI cI),.now (.fk 241 3 cI cI)]] (fun x=>lG x.1 x.2.1 x.2.2.1 x.2.2.2.1 x.2.2.2.2)
theorem wJ:SX DL:=fq Tryz.f183 [.tmp 4] {takes:=[241],fn:=183} (.b .o (.b .o (.b (.b .o (.u (.lp (JO [(5,oI),(10,oI)] [.map 240 (.st 11) .bo,.fk 241 3 cI cI,.fk 241 3 cI cI] [(0,1),(1,2),(2,3)]) (.b .o (.b .o (.b (.u (.b .o (.b (.b (.j (JB 40) .o) .o) .o))) .o)))))) .o))) (c1 AP<|bS)
def A6:cV Sx:=kO 200 [oP 0 0,oS 13] [.box 253 [.aw 1],.arr 255 (.st 19) true] [mK (.one (.fn 237 [] [.ptr 2 0,.ptr 3 0])) [.kept,.kept,.now (.box 187 [.ptr 0 0]),.now (.box 92 [.da (.st 13)])]] (s2 rn)
theorem AR:SX A6:=fq Tryz.f200 [.tmp 4] {fn:=200} .o (bS)
def FB:cV Sx:=kO 239 [oP 0 0] [.box 253 [.aw 1],.arr 255 (.st 19) true] [mK oI [.kept,.kept]] qA
theorem yN:SX FB:=fq Tryz.f239 [.tmp 2] {fn:=239} .o (bS)
def A5:cV Sx:={f:=265,ins:=[oI,oP 0 0,oP 1 0],eW:=[.box 187 [.ptr 2 0],.box 3 [.da cI],.box 253 [.aw 3],.arr 255 (.st 19) true],ls:=[cI,(.sl (.st 19)),cI],pm:=[0,2,1],bk:=[0,2,1],outs:=[mK oB [.kept,.kept,.kept,.kept]],pL:=fun x=>nP x.1 x.2.1 x.2.2}
theorem AQ:SX A5:=fq Tryz.f265 [.tmp 4] {fn:=265} .o (c1 ta<|bS)
def tJ:cV Sx:={f:=264,ins:=[oI,.one (.fn 265 [] [.ptr 0 0,.ptr 1 0])],eW:=[.box 187 [.ptr 2 0],.box 3 [.da cI],.box 253 [.aw 3],.arr 255 (.st 19) true],ls:=[cI,(.sl (.st 19)),cI],pm:=[0,2,1],bk:=[0,2,1],outs:=[mK oI [.kept,.kept,.kept,.kept]],pL:=fun x=>ji x.1 x.2.1 x.2.2}
theorem th:SX tJ:=fq Tryz.f264 [.tmp 4] {fn:=264} (.b .o (.b .o (.b (.u (.lp (J [(5,oI),(6,oI)]) .o)) .o))) (c1 AQ<|bS)
def DW:cV Sx:=kO 238 [oP 0 0,oI] [.box 253 [.aw 1],.arr 255 (.st 19) true] [mK oI [.kept,.kept]] (s2 qT)
theorem C6:SX DW:=fq Tryz.f238 [.tmp 4] {fn:=238} .o (c1 yN<|c1 th<|bS)
def B3:cV Sx:=kO (E.Y5 137003) [.one (.yl 0),oI,oS 13] [.loop 137003 .ready [(5,oP 1 0)],.box 56 [.rw 2 cI],.row 3 cI] [mK (.one (.tt true)) [.now (.loop 137003 .ready [(5,oP 1 0)]),.now (.box 56 [.rw 3 cI]),.gone,.now (.row 3 cI)]] (s3 sH)
theorem BN:SX B3:=yq 137003 17 [10,11] {fn:=137,rd:=true} (.b .o .o) (bS)
def pW:cV Sx:={f:=237,ins:=[.one (.yl 0),oP 1 0,oP 2 0],eW:=[.loop 137003 .ready [(5,oP 3 0)],.box 187 [.ptr 4 0],.box 92 [.da (.st 13)],.box 56 [.rw 5 cI],.box 253 [.aw 6],.row 3 cI,.arr 255 (.st 19) true],ls:=[(.sl (.st 19)),(.st 13),(.sl cI)],pm:=[2,0,1],bk:=[1,2,0],outs:=[mK (.mf []) [.now (.loop 137003 .ready [(5,oP 3 0)]),.kept,.kept,.now (.box 56 [.rw 7 cI]),.kept,.gone,.kept,.now (.row 3 cI)]],pL:=fun x=>fD x.1 x.2.1 x.2.2}
theorem pQ:SX pW:=fq Tryz.f237 [] {fn:=237} (.b .o (.u (.lp {JO [(4,oI)] [.loop 137003 .ready [(5,oP 1 0)],.box 56 [.rw 2 cI],.row 3 cI] [(0,0),(1,3)]with gone:=[5]} (.b .o (.b (.u (.b .o (.b (.j {JO [(45,oB)] [.loop 137003 .ready [(5,oP 1 0)],.box 56 [.rw 2 cI],.row 3 cI] [(0,0),(1,3)]with gone:=[578]} .o) .o))) .o))))) (c1 C6<|c1 yN<|c1 zE<|c1 BN<|bS)
def EL:cV Sx:=kO 137 [oP 0 0,oS 13] [.box 253 [.aw 1],.arr 255 (.st 19) true] [mK (.one (.rw 2 cI)) [.kept,.kept,.now (.row 3 cI)]] (s2 pj)
theorem Eb:SX EL:=fq Tryz.f137 [.tmp 4] {fn:=137} (.b .o (.b .o (.b (.b .o (.u (.z [(5,1,.own 3 cI)] .o))) .o))) (c1 AR<|c1 pQ<|bS)
def G7:cV Sx:=kO 104 [oD (.sl (.st 4))] [] [mK (oP 0 0) [.now (.box 243 [.da cI,.nT 1,.nT 2,.nT 3]),.now (.map 240 (.st 11) .bo),.now (.fk 241 3 cI cI),.now (.fk 241 3 cI cI)]] oT
theorem zC:SX G7:=fq Tryz.f104 [.tmp 2] {fn:=104} (.b .o (.b .o (.b .o (.b (.b .o (.u (.lp (JO [(18,oI)] [.map 240 (.st 11) .bo,.fk 241 3 cI cI,.fk 241 3 cI cI] [(0,450),(1,451),(2,452)]) (.b .o (.b .o (.b (.u (.b .o (.b .o (.b .o (.b (.b .o (.u (.lp (JO [(33,oI)] [.map 240 (.st 11) .bo,.fk 241 3 cI cI,.fk 241 3 cI cI] [(0,450),(1,451),(2,452)]) .o))) .o))))) .o)))))) .o)))) (c1 CW<|c1 D1<|c1 nY<|c1 z8<|c1 wJ<|c1 Eb<|bS)
def wS:cV Sx:=kO 141 [.agg [.da (.sl (.st 4)),.ptr 0 0]] [.box 243 [.da cI,.nT 1,.nT 2,.nT 3],.map 240 (.st 11) .bo,.fk 241 3 cI cI,.fk 241 3 cI cI] [mK (.one (.rw 4 cI)) [.kept,.kept,.kept,.kept,.now (.row 3 cI)]] (fun x=>fV x.1 x.2.1 x.2.2.1 x.2.2.2.1 x.2.2.2.2)
theorem pV:SX wS:=fq Tryz.f141 [.tmp 2] {fn:=141} (.b .o (.b .o (.b (.b .o (.u (.lp {JO [(3,.one (.rw 0 cI)),(9,oI)] [.row 3 cI] []with pre:=[(3,0,.own 3 cI)]} .o))) .o))) (bS)
def A8:cV Sx:=kK 204 [oD (.sl cI),oI] oI (s2 ru)
theorem AW:SX A8:=fq Tryz.f204 [.tmp 4] {fn:=204} (.b .o (.b (.b .o (.u (.lp (JI 8) .o))) .o)) (bS)
def zb:cV Sx:=kK 142 [oD (.sl cI),oI] oB (s2 dI)
theorem gi:SX zb:=fq Tryz.f142 [.tmp 4] {fn:=142} .o (c1 AW<|bS)
def Ak:cV Sx:=kO 185 [oD (.sl cI)] [] [mK (.one (.fn 233 [] [.ptr 0 0])) [.now (.box 56 [.da (.sl cI)])]] gR
theorem tf:SX Ak:=fq Tryz.f185 [.tmp 2] {fn:=185} .o (bS)
def wq:cV Sx:=kO (E.Y5 255002) [.one (.yl 0),oI] [.loop 255002 .ready [(2,oP 1 0)],.box 56 [.aw 2],.arr 3 cI true] [mK (.one (.tt true)) [.now (.loop 255002 .ready [(2,oP 1 0)]),.now (.box 56 [.aw 3]),.gone,.now (.arr 3 cI true)]] (s2 fM)
theorem pG:SX wq:=yq 255002 13 [7] {fn:=255,rd:=true} (.b .o .o) (bS)
def mP:cV Sx:=kO 233 [.one (.yl 0),oP 1 0] [.loop 255002 .ready [(2,oP 2 0)],.box 56 [.da (.sl cI)],.box 56 [.aw 3],.arr 3 cI true] [mK (.mf []) [.now (.loop 255002 .ready [(2,oP 2 0)]),.kept,.now (.box 56 [.aw 4]),.gone,.now (.arr 3 cI true)]] (s2 ek)
theorem mL:SX mP:=fq Tryz.f233 [] {fn:=233} (.b .o (.u (.lp {JO [(7,oI)] [.loop 255002 .ready [(2,oP 1 0)],.box 56 [.aw 2],.arr 3 cI true] [(0,0),(1,2)]with gone:=[3]} .o))) (c1 pG<|bS)
def lv:cV Sx:=kO 255 [.one (.fQ),.one (.fn 233 [] [.ptr 0 0])] [.box 56 [.da (.sl cI)]] [mK (oA 1) [.kept,.now (.arr 3 cI true)]] dK
theorem lj:SX lv:=fq Tryz.f255 [.tmp 4] {lL:=[56],fn:=255} (.b .o (.b (.b .o (.u (.z [(2,1,.arr 3 cI)] .o))) .o)) (c1 mL<|bS)
def oM:cV Sx:=kO 232 [.one (.fn 233 [] [.ptr 0 0])] [.box 56 [.da (.sl cI)]] [mK (oA 1) [.kept,.now (.arr 3 cI true)]] dP
theorem ot:SX oM:=fq Tryz.f232 [.tmp 2] {lL:=[56],fn:=232} .o (c1 lj<|bS)
def Kr:cV Sx:=kK 173 [oI,oI] oB (s2 dy)
theorem jx:SX Kr:=fq Tryz.f173 [.tmp 4] {fn:=173} .o (c1 AN<|bS)
def sC:cV Sx:={f:=167,ins:=[oA 0,oI,oI],eW:=[.arr 3 cI true],ls:=[(.sl cI),cI,cI],pm:=[2,0,1],bk:=[1,2,0],outs:=[mK (.mf []) [.now (.arr 3 cI true)]],pL:=fun x=>m8 x.1 x.2.1 x.2.2}
theorem su:SX sC:=fq Tryz.f167 [] {lL:=[56],fn:=167} (.b .o (.u (.lp (JO [(6,oI)] [.arr 3 cI true] [(0,0)]) (.b .o (.b (.u (.b .o (.u (.lp (JO [(7,oI)] [.arr 3 cI true] [(0,0)]) (.b (.b (.j (JB 30) .o) .o) .o))))) .o))))) (c1 jx<|bS)
def vl:cV Sx:={f:=223,ins:=[oA 0,oI,oI,oI],eW:=[.arr 3 cI true],ls:=[(.sl cI),cI,cI,cI],pm:=[3,0,1,2],bk:=[1,2,3,0],outs:=[mK (.mf []) [.now (.arr 3 cI true)]],pL:=fun x=>lh x.1 x.2.1 x.2.2.1 x.2.2.2}
theorem vg:SX vl:=fq Tryz.f223 [] {lL:=[56],fn:=223} (.b .o (.u (.lp (JO [(8,oI)] [.arr 3 cI true] [(0,0)]) (.u (.b .o (.b .o (.b (.b (.j (JB 36) .o) (.j (JI 9) .o)) .o))))))) (c1 jx<|bS)
def vk:cV Sx:={f:=168,ins:=[oA 0,oI,oI],eW:=[.arr 3 cI true],ls:=[(.sl cI),cI,cI],pm:=[2,0,1],bk:=[1,2,0],outs:=[mK (.mf []) [.now (.arr 3 cI true)]],pL:=fun x=>pU x.1 x.2.1 x.2.2}
theorem vf:SX vk:=fq Tryz.f168 [] {lL:=[56],fn:=168} (.b .o (.b .o (.b .o (.b (.b .o (.j (JO [] [.arr 3 cI true] [(0,0)]) (.u (.lp (JO [(9,oI)] [.arr 3 cI true] [(0,0)]) .o)))) (.b .o (.u (.lp (JO [(10,oI)] [.arr 3 cI true] [(0,0)]) .o))))))) (c1 vg<|bS)
def sB:cV Sx:={f:=169,ins:=[oA 0,oI,oI],eW:=[.arr 3 cI true],ls:=[(.sl cI),cI,cI],pm:=[2,0,1],bk:=[1,2,0],outs:=[mK (.mf []) [.now (.arr 3 cI true)]],pL:=fun x=>mZ x.1 x.2.1 x.2.2}
theorem ss:SX sB:=fq Tryz.f169 [] {lL:=[56],fn:=169} (.b .o (.b .o (.b (.b .o (.b .o (.b .o (.u (.lp (JO [(9,oI)] [.arr 3 cI true,.box 277 [.da (.int .u64)]] [(0,0),(1,769)]) (.b .o (.b (.u (.b .o (.b (.b .o (.j (JI 10) .o)) .o))) .o))))))) .o))) (c1 oe<|c1 pK<|bS)
def wx:cV Sx:={f:=254,ins:=[oA 0,oI,oI,oP 1 0],eW:=[.arr 3 cI true,.box 3 [.da cI]],ls:=[(.sl cI),cI,cI,cI],pm:=[2,0,1,3],bk:=[1,2,0,3],outs:=[mK (.mf [oI,oI]) [.kept,.now (.box 3 [.da cI])]],pL:=fun x=>ir x.1 x.2.1 x.2.2.1 x.2.2.2}
theorem vU:SX wx:=fq Tryz.f254 [.tmp 8,.tmp 9] {fn:=254} .o (c1 jx<|bS)
def wv:cV Sx:={f:=227,ins:=[oA 0,oI,oI,oI,oP 1 0],eW:=[.arr 3 cI true,.box 3 [.da cI]],ls:=[(.sl cI),cI,cI,cI,cI],pm:=[3,0,1,2,4],bk:=[1,2,3,0,4],outs:=[mK oI [.kept,.now (.box 3 [.da cI])]],pL:=fun x=>mu x.1 x.2.1 x.2.2.1 x.2.2.2.1 x.2.2.2.2}
theorem pI:SX wv:=fq Tryz.f227 [.tmp 10] {fn:=227} .o (c1 vU<|bS)
def rQ:cV Sx:={f:=226,ins:=[oA 0,oI,oP 1 0],eW:=[.arr 3 cI true,.box 3 [.da cI]],ls:=[(.sl cI),cI,cI],pm:=[1,0,2],bk:=[1,0,2],outs:=[mK oI [.kept,.now (.box 3 [.da cI])]],pL:=fun x=>eU x.1 x.2.1 x.2.2}
theorem rE:SX rQ:=fq Tryz.f226 [.tmp 6] {fn:=226} .o (c1 pI<|bS)
def tI:cV Sx:={f:=170,ins:=[oA 0,oI,oI],eW:=[.arr 3 cI true],ls:=[(.sl cI),cI,cI],pm:=[2,0,1],bk:=[1,2,0],outs:=[mK (.mf [oI,oI]) [.kept]],pL:=fun x=>nX x.1 x.2.1 x.2.2}
theorem tg:SX tI:=fq Tryz.f170 [.tmp 6,.tmp 7] {fn:=170} (.b .o (.b .o (.b .o (.b .o (.b .o (.b .o (.b (.b .o (.j (JO [(11,oI)] [.box 3 [.da cI]] [(0,641)]) (.b (.b (.b .o (.j (JO [(10,oI),(11,oI),(12,oI)] [.box 3 [.da cI]] [(0,641)]) .o)) .o) .o))) .o))))))) (c1 rE<|c1 pI<|bS)
def sT:cV Sx:={f:=171,ins:=[oA 0,oI,oI],eW:=[.arr 3 cI true],ls:=[(.sl cI),cI,cI],pm:=[2,0,1],bk:=[1,2,0],outs:=[mK (.mf []) [.now (.arr 3 cI true)]],pL:=fun x=>nu x.1 x.2.1 x.2.2}
theorem sO:SX sT:=fq Tryz.f171 [] {lL:=[56],fn:=171} (.b .o (.b .o (.u (.lp (JO [(6,oI),(7,oI)] [.arr 3 cI true] [(0,0)]) .o)))) (bS)
def pO:cV Sx:={f:=172,ins:=[oA 0,oI,oI],eW:=[.arr 3 cI true],ls:=[(.sl cI),cI,cI],pm:=[2,0,1],bk:=[1,2,0],outs:=[mK oB [.now (.arr 3 cI true)]],pL:=fun x=>jw x.1 x.2.1 x.2.2}
theorem pJ:SX pO:=fq Tryz.f172 [.tmp 6] {lL:=[56],fn:=172} (.b .o (.b .o (.b (.b .o (.u (.lp (JO [(7,oI),(8,oI)] [.arr 3 cI true] [(0,0)]) (.b .o (.b (.u (.b (.j (JI 7) (.u (.lp (JI 7) (.b (.b (.j (JB 32) .o) .o) .o)))) (.b .o (.b .o (.b .o (.b (.b .o (.j (JO [] [.arr 3 cI true] [(0,0)]) (.b (.b .o (.u (.lp (JO [(9,oI)] [.arr 3 cI true] [(0,0)]) .o))) .o))) (.b .o (.b (.b .o (.u (.lp (JO [(10,oI)] [.arr 3 cI true] [(0,0)]) .o))) .o)))))))) .o))))) .o))) (c1 jx<|bS)
def rR:cV Sx:={f:=174,ins:=[oA 0,oI,oI,oI],eW:=[.arr 3 cI true],ls:=[(.sl cI),cI,cI,cI],pm:=[3,0,1,2],bk:=[1,2,3,0],outs:=[mK oI [.now (.arr 3 cI true)]],pL:=fun x=>mD x.1 x.2.1 x.2.2.1 x.2.2.2}
theorem rF:SX rR:=fq Tryz.f174 [.tmp 8] {lL:=[56],fn:=174} (.b .o (.b .o (.b .o (.b (.u (.lp (JO [(9,oI),(10,oI)] [.arr 3 cI true] [(0,0)]) (.u (.b (.j (JI 9) (.u (.lp (JI 9) (.b (.b (.j (JB 43) .o) .o) .o)))) (.b (.j (JI 10) (.u (.lp (JI 10) (.b (.b (.j (JB 59) .o) .o) .o)))) .o))))) .o)))) (c1 jx<|bS)
def uC:cV Sx:={f:=175,ins:=[oA 0,oI,oI,oI],eW:=[.arr 3 cI true],ls:=[(.sl cI),cI,cI,cI],pm:=[3,0,1,2],bk:=[1,2,3,0],outs:=[mK (.mf [oI,oB]) [.now (.arr 3 cI true)]],pL:=fun x=>pF x.1 x.2.1 x.2.2.1 x.2.2.2}
theorem uv:SX uC:=fq Tryz.f175 [.tmp 8,.tmp 9] {lL:=[56],fn:=175} (.b .o (.b .o (.b .o (.b (.j (JI 10) (.u (.lp (JI 10) (.b (.b (.j (JB 43) .o) .o) .o)))) (.b (.j (JI 11) (.u (.lp (JI 11) (.b (.b (.j (JB 60) .o) .o) .o)))) (.b .o (.b .o (.b .o (.b .o (.b (.j (JO [(11,oI)] [.arr 3 cI true] [(0,0)]) (.u (.lp (JO [(10,oI),(11,oI)] [.arr 3 cI true] [(0,0)]) (.u (.b (.j (JI 10) (.u (.lp (JI 10) (.b (.b (.j (JB 112) .o) .o) .o)))) (.b (.j (JI 11) (.u (.lp (JI 11) (.b (.b (.j (JB 129) .o) .o) .o)))) .o)))))) .o)))))))))) (c1 jx<|bS)
def oh(g:((List Int)×Int×Int×Int)->Option (List Int)):cV Sx:={f:=99,ins:=[oA 0,oI,oI,oI],eW:=[.arr 3 cI true],ls:=[(.sl cI),cI,cI,cI],pm:=[3,0,1,2],bk:=[1,2,3,0],outs:=[{out:=.mf [],lB:=[.now (.arr 3 cI true)],Bo:=[(.sl cI)]}],pL:=g}
def vz:cV Sx:={f:=99,ins:=[oA 0,oI,oI,oI],eW:=[.arr 3 cI true],ls:=[(.sl cI),cI,cI,cI],pm:=[3,0,1,2],bk:=[1,2,3,0],outs:=[mK (.mf []) [.now (.arr 3 cI true)]],pL:=fun x=>qF x.1 x.2.1 x.2.2.1 x.2.2.2}
theorem vn:SX vz:=Dk (c:=oh fun _=>none) (F:=kb) fun g hg=>fq (c:=oh (kb g)) Tryz.f99 [] {fn:=99} (.b .o (.b .o (.u (.lp (JO [(1,oI),(2,oI),(3,oI),(8,oB),(9,oB)] [.arr 3 cI true] [(0,0)]) (.u (.b .o (.b .o (.b .o (.b (.b .o (.j (JO [(3,oI)] [.arr 3 cI true] [(0,0)]) .o)) (.b .o (.b (.b .o (.j (JO [(11,oI),(12,oI)] [.arr 3 cI true] [(0,0)]) .o)) (.b (.b (.j (JB 68) .o) (.j {JO [] [.arr 3 cI true] [(0,0)]with early:=true} .o)) (.b (.b (.j (JB 87) .o) .o) .o))))))))))))) (c1 hg<|c1 su<|c1 vf<|c1 ss<|c1 tg<|c1 sO<|c1 pJ<|c1 jx<|c1 rF<|c1 uv<|bS)
def zQ:cV Sx:=kO 45 [oA 0] [.arr 3 cI true] [mK (.mf []) [.now (.arr 3 cI true)]] gw
theorem ny:SX zQ:=fq Tryz.f45 [] {fn:=45} .o (c1 so<|c1 vn<|bS)
def pN:cV Sx:=kO 184 [.one (.fn 233 [] [.ptr 0 0])] [.box 56 [.da (.sl cI)]] [mK (oA 1) [.kept,.now (.arr 3 cI true)]] cR
theorem iq:SX pN:=fq Tryz.f184 [.tmp 2] {lL:=[56],fn:=184} .o (c1 ot<|c1 ny<|bS)
def Ew:cV Sx:=kO 243 [oP 0 0,oI] [.box 243 [.da cI,.nT 1,.nT 2,.nT 3],.map 240 (.st 11) .bo,.fk 241 3 cI cI,.fk 241 3 cI cI] [mK (oD (.sl cI)) [.kept,.kept,.kept,.kept]] (fun x=>rT x.1 x.2.1 x.2.2.1 x.2.2.2.1 x.2.2.2.2)
theorem D2:SX Ew:=fq Tryz.f243 [.tmp 4] {pre:=[(4,0,.Y9)],fn:=243} .o (c1 tf<|c1 iq<|bS)
def DN:cV Sx:=kO 105 [oP 0 0,oI] [.box 243 [.da cI,.nT 1,.nT 2,.nT 3],.map 240 (.st 11) .bo,.fk 241 3 cI cI,.fk 241 3 cI cI] [mK (oD (.sl cI)) [.kept,.kept,.kept,.kept]] (fun x=>gM x.1 x.2.1 x.2.2.1 x.2.2.2.1 x.2.2.2.2)
theorem wK:SX DN:=fq Tryz.f105 [.tmp 4] {pre:=[(4,0,.Y9)],fn:=105} .o (c1 tf<|c1 iq<|bS)
def EP:cV Sx:=kK 272 [oI] oB sn
theorem Ef:SX EP:=fq Tryz.f272 [.tmp 2] {fn:=272} .o (bS)
def uB:cV Sx:={f:=244,ins:=[oA 0,oI],eW:=[.arr 3 cI false],ls:=[(.sl cI),cI],pm:=[1,0],bk:=[1,0],outs:=[mK (.mf [oI,oB]) [.kept]],pL:=fun x=>gv x.1 x.2}
theorem uu:SX uB:=fq Tryz.f244 [.tmp 4,.tmp 5] {fn:=244} (.b .o (.b .o (.b .o (.b (.j (JI 7) (.u (.lp (J [(7,oI),(8,oI)]) .o))) .o)))) (c1 jx<|c1 Ef<|bS)
def yj:cV Sx:=kO 245 [oA 0,oI,.one (.rw 1 cI)] [.arr 3 cI false,.row 3 cI] [mK (oA 2) [.gone,.gone,.now (.arr 3 cI false)]] (s3 kC)
theorem xO:Sound Tryz.prog KT yj:=Ot ab4 rfl rfl (by kernel_rfl) (enters_of Tryz.func245 (by kernel_rfl) (by kernel_rfl))
def Mo:cV Sx:=kO 203 [oP 0 0,oD (.sl cI)] [.box 243 [.da cI,.nT 1,.nT 2,.nT 3],.map 240 (.st 11) .bo,.fk 241 3 cI cI,.fk 241 3 cI cI] [mK (.mf [oD (.sl cI),.one (.nT 4)]) [.kept,.kept,.kept,.kept,.now (.map 143 cI cI)]] (fun x=>wO x.1 x.2.1 x.2.2.1 x.2.2.2.1 x.2.2.2.2)
theorem C7:SX Mo:=fq Tryz.f203 [.tmp 4,.tmp 5] {lL:=[56],pre:=[(4,0,.Y9)],fn:=203} (.b .o (.b .o (.b (.b .o (.j (JO [] [.map 143 cI cI] [(0,385)]) (.u (.lp (JO [(28,oI)] [.map 143 cI cI] [(0,385)]) .o)))) (.b (.b .o (.j {JO [(6,.one (.nT 0))] [.map 143 cI cI] [(0,385)]with kill:=[25,38,39]} (.u (.mr (JO [] [.sJ 143 cI cI 1,.IK cI 0] [(0,385),(1,1025)]) 1025 (.u (.b .o (.b .o (.u (.lp (JO [(48,oI)] [.sJ 143 cI cI 100] [(0,385),(100,1025)]) .o))))))))) (.b .o (.b (.b .o (.j (JO [(14,oA 0)] [.arr 3 cI true] []) (.u (.lp {JO [(14,oA 0),(66,oI)] [.arr 3 cI true] []with pre:=[(14,0,.arr 3 cI)]} (.b .o (.b .o (.b (.u (.b .o (.b .o (.b (.j (JB 79) .o) .o)))) .o))))))) (.b (.j (JO [(13,oA 1)] [.map 143 cI cI,.arr 3 cI true] [(0,385)]) (.u (.lp {JO [(13,oA 1),(14,oA 2)] [.map 143 cI cI,.arr 3 cI true,.arr 3 cI false] [(0,385)]with pre:=[(13,0,.arr 3 cI)]} (.b .o (.u (.b .o (.b .o (.b .o (.b .o (.b .o (.u (.lp {JO [(14,oA 1),(103,oI)] [.map 143 cI cI,.arr 3 cI false] [(0,385)]with kill:=[92]} .o)))))))))))) .o))))))) (c1 rC<|c1 gi<|c1 D2<|c1 wK<|c1 uu<|c1 xO<|bS)
def tY:NC Sx:={f:=284,ins:=[oP 0 0,oD (.sl cI)],eW:=[.box 243 [.da cI,.nT 1,.nT 2,.nT 3],.map 240 (.st 11) .bo,.fk 241 3 cI cI,.fk 241 3 cI cI],ls:=[(.sl cI),cI,(.mp (.st 11) .bo),(.mp cI (.sl cI)),(.mp cI (.sl cI))],out:={out:=oP 4 0,lB:=[.kept,.now (.map 240 (.st 11) .bo),.kept,.kept,.now (.box 243 [.da cI,.nT 5,.nT 6,.nT 7]),.now (.map 240 (.st 11) .bo),.now (.fk 241 3 cI cI),.now (.fk 241 3 cI cI)],Bo:=[(.mp (.st 11) .bo),cI,(.mp (.st 11) .bo),(.mp cI (.sl cI)),(.mp cI (.sl cI))]},Jo:=fun γ k x=>nh x.1 x.2.1 x.2.2.1 x.2.2.2.1 x.2.2.2.2 k}
theorem z6:NSX tY:=nq Tryz.f284 [.tmp 4] {fn:=284} (.b .o (.b .o (.b .o (.b (.b .o (.u (.mr (JO [] [.sJ 240 (.st 11) .bo 4,.map 240 (.st 11) .bo,.fk 241 3 cI cI,.fk 241 3 cI cI,.IK (.st 11) 0] [(0,1),(1,706),(2,707),(3,708),(4,1089)]) 1089 (.u (.b .o (.b (.j (JB 34) .o) .o)))))) .o)))) (c1 CW<|c1 gi<|c1 wJ<|bS)
def zP:cV Sx:=kO 290 [oD (.sl cI)] [] [mK (oA 0) [.now (.arr 3 cI true)]] mn
theorem zf:SX zP:=fq Tryz.f290 [.tmp 2] {lL:=[56],pre:=[(2,0,.arr 3 cI)],lits:=[56],fn:=290} .o (bS)
def ui:cV Sx:=kO 291 [.one (.nT 0)] [.map 323 cI .bo] [mK (.one (.fn 294 [] [.ptr 1 0])) [.kept,.now (.box 323 [.nT 0])]] jC
theorem tR:SX ui:=fq Tryz.f291 [.tmp 2] {fn:=291} .o (bS)
def eF:NC Sx:={f:=294,ins:=[.one (.yl 0),oP 1 0],eW:=[.loop 255002 .ready [(2,oP 2 0)],.box 323 [.nT 3],.box 56 [.aw 4],.map 323 cI .bo,.arr 3 cI true],ls:=[(.sl cI),(.mp cI .bo)],pm:=[1,0],bk:=[1,0],out:={out:=.mf [],lB:=[.now (.loop 255002 .ready [(2,oP 2 0)]),.kept,.now (.box 56 [.aw 5]),.now (.map 323 cI .bo),.gone,.now (.arr 3 cI true)],Bo:=[(.mp cI .bo),(.sl cI)]},Jo:=fun γ k x=>dx x.1 x.2 k}
theorem js:NSX eF:=nq Tryz.f294 [] {fn:=294} (.b .o (.u (.mr {JO [] [.loop 255002 .ready [(2,oP 1 0)],.box 56 [.aw 4],.sJ 323 cI .bo 3,.IK cI 2,.arr 3 cI true] [(0,0),(1,2),(2,3),(3,321)]with gone:=[4]} 321 .o))) (c1 pG<|bS)
def dZ:NC Sx:={f:=255,ins:=[.one (.fQ),.one (.fn 294 [] [.ptr 0 0])],eW:=[.box 323 [.nT 1],.map 323 cI .bo],ls:=[(.mp cI .bo)],out:={out:=oA 2,lB:=[.kept,.now (.map 323 cI .bo),.now (.arr 3 cI true)],Bo:=[(.mp cI .bo),(.sl cI)]},Jo:=fun γ k x=>dk x k}
theorem ib:NSX dZ:=nq Tryz.f255 [.tmp 4] {lL:=[56],fn:=255,nd:=[eF]} (.b .o (.b (.b .o (.u (.z [(2,1,.arr 3 cI)] .o))) .o)) (bS) (hΨ:=eY js<|bS)
def fp:NC Sx:={f:=232,ins:=[.one (.fn 294 [] [.ptr 0 0])],eW:=[.box 323 [.nT 1],.map 323 cI .bo],ls:=[(.mp cI .bo)],out:={out:=oA 2,lB:=[.kept,.now (.map 323 cI .bo),.now (.arr 3 cI true)],Bo:=[(.mp cI .bo),(.sl cI)]},Jo:=fun γ k x=>dN x k}
theorem lD:NSX fp:=nq Tryz.f232 [.tmp 2] {lL:=[56],fn:=232,nd:=[dZ]} .o (bS) (hΨ:=eY ib<|bS)
def lV:cV Sx:=kO 184 [.one (.fn 294 [] [.ptr 0 0])] [.box 323 [.nT 1],.map 323 cI .bo] [mK (oA 2) [.kept,.now (.map 323 cI .bo),.now (.arr 3 cI true)]] dj
theorem lQ:SX lV:=fq Tryz.f184 [.tmp 2] {lL:=[56],fn:=184,nd:=[fp]} .o (c1 ny<|bS) (hΨ:=eY lD<|bS)
def B1:cV Sx:=kO 285 [oP 0 0,oI] [.box 243 [.da cI,.nT 1,.nT 2,.nT 3],.map 240 (.st 11) .bo,.fk 241 3 cI cI,.fk 241 3 cI cI] [mK (oD (.sl cI)) [.kept,.kept,.kept,.kept]] (fun x=>oz x.1 x.2.1 x.2.2.1 x.2.2.2.1 x.2.2.2.2)
theorem BL:SX B1:=fq Tryz.f285 [.tmp 4] {lL:=[56],pre:=[(4,0,.Y9)],fn:=285} (.b .o (.u (.b .o (.b .o (.b .o (.b .o (.b (.j {JO [] [.map 323 cI .bo] [(0,449)]with kill:=[17]} (.u (.lp {JO [(6,oA 1)] [.map 323 cI .bo,.arr 3 cI true] [(0,449)]with kill:=[17]} .o))) .o))))))) (c1 zf<|c1 tR<|c1 lQ<|bS)
def Mn:cV Sx:=kO 266 [oP 0 0,oD (.sl cI)] [.box 243 [.da cI,.nT 1,.nT 2,.nT 3],.map 240 (.st 11) .bo,.fk 241 3 cI cI,.fk 241 3 cI cI] [mK (oA 4) [.kept,.now (.map 240 (.st 11) .bo),.kept,.kept,.now (.arr 3 cI true)]] (fun x=>zH x.1 x.2.1 x.2.2.1 x.2.2.2.1 x.2.2.2.2)
theorem LX:SX Mn:=fq Tryz.f266 [.tmp 4] {lL:=[56],fn:=266,nd:=[tY]} (.b .o (.b .o (.b .o (.b .o (.b (.b .o (.u (.lp {JO [(8,oA 0),(23,oI)] [.arr 3 cI true] []with pre:=[(8,0,.arr 3 cI)]} (.b .o (.b .o (.b (.u (.b .o (.b .o (.b (.j (JB 39) .o) .o)))) .o)))))) .o))))) (c1 C7<|c1 rC<|c1 BL<|c1 gi<|bS) (hΨ:=eY z6<|bS)
def Kz:cV Sx:=kO 268 [oI,oP 0 0] [.box 56 [.da (.sl cI)]] [mK oB [.kept]] (s2 xC)
theorem BW:SX Kz:=fq Tryz.f268 [.tmp 3] {fn:=268} .o (c1 gi<|bS)
def pX:cV Sx:=kO 286 [oA 0,.one (.fn 268 [] [.ptr 1 0])] [.arr 3 cI true,.box 56 [.da (.sl cI)]] [mK oI [.kept,.kept]] (s2 fE)
theorem pR:SX pX:=fq Tryz.f286 [.tmp 4] {fn:=286} (.b .o (.b (.b .o (.u (.lp (JI 8) .o))) .o)) (c1 BW<|bS)
def pM:cV Sx:=kO 267 [oA 0,.one (.fn 268 [] [.ptr 1 0])] [.arr 3 cI true,.box 56 [.da (.sl cI)]] [mK (oD (.sl cI)) [.gone,.kept]] (s2 dS)
theorem pH:SX pM:=fq Tryz.f267 [.tmp 4] {lL:=[56],pre:=[(4,0,.Y9)],parts:=[56],fn:=267} (.b .o (.b .o (.b .o (.b (.b .o (.j (JO [(5,oI)] [.arr 3 cI true] [(0,0)]) (.u (.lp (JO [(5,oI),(6,oI)] [.arr 3 cI true] [(0,0)]) .o)))) .o)))) (c1 pR<|c1 BW<|bS)
def KB:cV Sx:=kK 271 [oD (.sl cI),oI] oI (s2 xE)
theorem Ju:SX KB:=fq Tryz.f271 [.tmp 4] {fn:=271} (.b .o (.b (.b (.j (JB 12) .o) .o) .o)) (bS)
def KA:cV Sx:=kO 270 [oI,oP 0 0] [.box 56 [.da (.sl cI)]] [mK oI [.kept]] (s2 xD)
theorem Jt:SX KA:=fq Tryz.f270 [.tmp 3] {fn:=270} .o (c1 Ju<|bS)
def rP:cV Sx:=kO 269 [oD (.sl cI),.one (.fn 270 [] [.ptr 0 0])] [.box 56 [.da (.sl cI)]] [mK (.mf [oI,oB]) [.kept]] (s2 eT)
theorem rD:SX rP:=fq Tryz.f269 [.tmp 4,.tmp 5] {fn:=269} (.b .o (.b .o (.b (.b .o (.j (JI 6) (.u (.lp (J [(6,oI),(11,oI)]) (.b .o (.b .o (.b (.u (.b .o (.b (.j (JB 26) .o) .o))) .o))))))) .o))) (c1 Jt<|bS)
def N2:cV Sx:=kO 241 [oP 0 0,oD (.sl cI),oD (.sl cI),oD (.sl cI)] [.box 243 [.da cI,.nT 1,.nT 2,.nT 3],.map 240 (.st 11) .bo,.fk 241 3 cI cI,.fk 241 3 cI cI] [mK (.mf [oI,oB,oB]) [.kept,.now (.map 240 (.st 11) .bo),.kept,.kept]] (fun x=>yp x.1 x.2.1 x.2.2.1 x.2.2.2.1 x.2.2.2.2.1 x.2.2.2.2.2.1 x.2.2.2.2.2.2)
theorem Eo:SX N2:=fq Tryz.f241 [.tmp 8,.tmp 9,.tmp 10] {fn:=241} .o (c1 LX<|c1 pH<|c1 rD<|bS)
def Hb:cV Sx:={f:=240,ins:=[oP 0 0,oP 1 0,oP 2 0,oP 3 0],eW:=[.box 94 [.ptr 4 0],.box 56 [.da (.sl cI)],.box 56 [.fQ],.box 56 [.da (.sl cI)],.box 243 [.da cI,.nT 5,.nT 6,.nT 7],.map 240 (.st 11) .bo,.fk 241 3 cI cI,.fk 241 3 cI cI],ls:=[cI,(.sl cI),(.sl cI),(.mp (.st 11) .bo),(.mp cI (.sl cI)),(.mp cI (.sl cI))],pm:=[2,0,1,3,4,5],bk:=[1,2,0,3,4,5],outs:=[mK (.mf [oB,oB]) [.kept,.kept,.now (.box 56 [.rw 8 cI]),.kept,.kept,.now (.map 240 (.st 11) .bo),.kept,.kept,.now (.row 3 cI)]],pL:=fun x=>yo x.1 x.2.1 x.2.2.1 x.2.2.2.1 x.2.2.2.2.1 x.2.2.2.2.2}
theorem Gy:SX Hb:=fq Tryz.f240 [.tmp 4,.tmp 5] {fn:=240} (.b .o (.b .o (.b (.b .o (.j {JO [] [.box 56 [.rw 1 cI],.row 3 cI] [(0,2)]with pre:=[(2,1,.own 3 cI)]} .o)) .o))) (c1 Eo<|bS)
def Ft:cV Sx:={f:=240,ins:=[oP 0 0,oP 1 0,oP 2 0,oP 3 0],eW:=[.box 94 [.ptr 4 0],.box 56 [.da (.sl cI)],.box 56 [.rw 5 cI],.box 56 [.da (.sl cI)],.box 243 [.da cI,.nT 6,.nT 7,.nT 8],.row 3 cI,.map 240 (.st 11) .bo,.fk 241 3 cI cI,.fk 241 3 cI cI],ls:=[cI,(.sl cI),(.sl cI),(.sl cI),(.mp (.st 11) .bo),(.mp cI (.sl cI)),(.mp cI (.sl cI))],pm:=[3,0,1,2,4,5,6],bk:=[1,2,3,0,4,5,6],outs:=[mK (.mf [oB,oB]) [.kept,.kept,.now (.box 56 [.rw 9 cI]),.kept,.kept,.gone,.now (.map 240 (.st 11) .bo),.kept,.kept,.now (.row 3 cI)]],pL:=fun x=>wZ x.1 x.2.1 x.2.2.1 x.2.2.2.1 x.2.2.2.2.1 x.2.2.2.2.2.1 x.2.2.2.2.2.2}
theorem E6:SX Ft:=fq Tryz.f240 [.tmp 4,.tmp 5] {fn:=240} (.b .o (.b .o (.b (.b .o (.j {JO [] [.box 56 [.rw 1 cI],.row 3 cI] [(0,2)]with gone:=[5],kill:=[2,12]} .o)) .o))) (c1 Eo<|bS)
def Ky:cV Sx:=kO 202 [oP 0 0,oD (.sl cI),oD (.sl cI)] [.box 243 [.da cI,.nT 1,.nT 2,.nT 3],.map 240 (.st 11) .bo,.fk 241 3 cI cI,.fk 241 3 cI cI] [mK (.mf [.one (.rw 4 cI),oB]) [.now (.box 243 [.da cI,.nT 1,.nT 2,.nT 3]),.now (.map 240 (.st 11) .bo),.now (.fk 241 3 cI cI),.now (.fk 241 3 cI cI),.now (.row 3 cI)]] (fun x=>xB x.1 x.2.1 x.2.2.1 x.2.2.2.1 x.2.2.2.2.1 x.2.2.2.2.2)
theorem Js:SX Ky:=fq Tryz.f202 [.tmp 6,.tmp 7] {pre:=[(6,0,.own 3 cI)],fn:=202} (.b .o (.b .o (.b .o (.b .o (.b (.j {JO [(8,oP 4 0),(11,oB)] [.box 243 [.da cI,.nT 1,.nT 2,.nT 3],.map 240 (.st 11) .bo,.fk 241 3 cI cI,.fk 241 3 cI cI,.box 56 [.rw 5 cI],.row 3 cI] [(0,0),(1,1),(2,2),(3,3),(4,577)]with kill:=[3,4,5,9,12,14]} (.u (.lp {JO [(8,oP 4 0),(9,.one (.fn 240 [] [.ptr 5 0,.ptr 6 0,.ptr 4 0,.ptr 7 0])),(10,oB),(11,oB)] [.box 243 [.da cI,.nT 1,.nT 2,.nT 3],.map 240 (.st 11) .bo,.fk 241 3 cI cI,.fk 241 3 cI cI,.box 56 [.rw 8 cI],.box 94 [.ptr 0 0],.box 56 [.da (.sl cI)],.box 56 [.da (.sl cI)],.row 3 cI] [(0,0),(1,1),(2,2),(3,3),(4,577),(5,257),(6,321),(7,385)]with kill:=[3,4,5,12,14]} .o))) .o))))) (c1 Gy<|c1 E6<|bS)
def yh:cV Sx:=kO 139 [.agg [.da (.sl (.st 4)),.ptr 0 0]] [.box 243 [.da cI,.nT 1,.nT 2,.nT 3],.map 240 (.st 11) .bo,.fk 241 3 cI cI,.fk 241 3 cI cI] [mK (.one (.rw 4 cI)) [.now (.box 243 [.da cI,.nT 1,.nT 2,.nT 3]),.now (.map 240 (.st 11) .bo),.now (.fk 241 3 cI cI),.now (.fk 241 3 cI cI),.now (.row 3 cI)]] (fun x=>n7 x.1 x.2.1 x.2.2.1 x.2.2.2.1 x.2.2.2.2)
theorem xM:SX yh:=fq Tryz.f139 [.tmp 2] {fn:=139} (.b .o (.b .o (.b (.b .o (.j (JO [(3,.one (.rw 0 cI))] [.row 3 cI] []) (.u (.lp {JO [(3,.one (.rw 0 cI)),(11,oI)] [.row 3 cI] []with pre:=[(3,0,.own 3 cI)]} .o)))) .o))) (c1 pV<|c1 Js<|bS)
def N4:cV Sx:=kO 140 [oP 0 0,oD (.sl cI)] [.box 243 [.da cI,.nT 1,.nT 2,.nT 3],.map 240 (.st 11) .bo,.fk 241 3 cI cI,.fk 241 3 cI cI] [mK (.mf [oD (.sl cI),oB]) [.kept,.kept,.kept,.kept]] (fun x=>BQ x.1 x.2.1 x.2.2.1 x.2.2.2.1 x.2.2.2.2)
theorem Mw:SX N4:=fq Tryz.f140 [.tmp 4,.tmp 5] {fn:=140} .o (c1 C7<|bS)
def NY:cV Sx:=kO 66 [oD (.sl (.st 4))] [] [mK (.agg [.da (.sl (.st 4)),.ptr 0 0,.da (.sl cI),.da (.sl cI)]) [.now (.box 243 [.da cI,.nT 1,.nT 2,.nT 3]),.now (.map 240 (.st 11) .bo),.now (.fk 241 3 cI cI),.now (.fk 241 3 cI cI)]] rh
theorem wk:SX NY:=fq Tryz.f66 [.cell 2 98] {fn:=66} .o (c1 zC<|c1 xM<|c1 pV<|c1 Mw<|bS)
def Kv:cV Sx:=kO 83 [oS 6,oD (.sl (.st 4))] [] [mK (.agg [.da cI,.da cI,.da (.a8 32),.da (.a8 32),.aw 0]) [.now (.arr 72 (.st 4) true)]] (s2 xy)
theorem Jq:SX Kv:=fq Tryz.f83 [.cell 4 27] {lL:=[25],fn:=83} (.b .o (.b .o (.b (.b .o (.u (.lp {JO [(10,oI)] [.box 27 [.da cI,.da cI,.da (.a8 32),.da (.a8 32),.aw 2],.box 27 [.da cI,.da cI,.da (.a8 32),.da (.a8 32),.aw 3],.arr 72 (.st 4) true,.arr 72 (.st 4) true] [(0,257),(1,321)]with pre:=[(2,5,.arr 72 (.st 4)),(4,5,.arr 72 (.st 4))]} .o))) .o))) (c1 vS<|bS)
def wU:cV Sx:=kO 246 [.one (.fQ),oI] [] [mK (.one (.rw 0 .u8)) [.now (.row 5 .u8)]] jf
theorem wN:SX wU:=fq Tryz.f246 [.tmp 4] {pre:=[(4,0,.own 5 .u8)],fn:=246} .o (bS)
def za:cV Sx:=kO 205 [oD (.sl cT)] [] [mK (.one (.rw 0 .u8)) [.now (.row 5 .u8)]] lI
theorem yP:SX za:=fq Tryz.f205 [.tmp 2] {fn:=205} (.b .o (.b .o (.b (.b .o (.j (JI 3) (.u (.lp (J [(3,oI),(11,oI)]) .o)))) (.b .o (.b (.b .o (.u (.lp {JO [(6,.one (.rw 0 .u8)),(27,oI)] [.row 5 .u8] []with kill:=[24]} .o))) .o))))) (c1 wN<|bS)
def Fo:cV Sx:=kK 143 [oI,oD (.sl cT)] (oS 4) (s2 tu)
theorem E4:SX Fo:=fq Tryz.f143 [.cell 4 72] {fn:=143} .o (c1 yP<|bS)
def FG:cV Sx:=kO 68 [oD cT,oS 6,oD (.sl cI)] [] [mK (.mf [.agg [.da cI,.da cI,.da (.a8 32),.da (.a8 32),.aw 0],oB]) [.now (.arr 72 (.st 4) true)]] (s3 tG)
theorem Fg:SX FG:=fq Tryz.f68 [.cell 6 27,.tmp 7] {lL:=[25],pre:=[(6,5,.arr 72 (.st 4))],fn:=68} (.b .o (.b .o (.b .o (.b (.b .o (.u (.lp {JO [(26,oI)] [.box 27 [.da cI,.da cI,.da (.a8 32),.da (.a8 32),.aw 2],.arr 72 (.st 4) true,.arr 72 (.st 4) true] [(0,321),(1,961)]with pre:=[(6,5,.arr 72 (.st 4))]} (.b .o (.b .o (.b (.u (.b .o (.b .o (.b (.j (JB 41) .o) .o)))) .o)))))) .o)))) (c1 Jq<|c1 nY<|c1 gi<|c1 E4<|bS)
def DJ:cV Sx:=kK 70 [oS 4] oB nI
theorem wH:SX DJ:=fq Tryz.f70 [.tmp 2] {fn:=70} .o (bS)
def iL:cV Sx:=kO 144 [oA 0,.one (.fn 70 [] [])] [.arr 72 (.st 4) true] [mK oI [.kept]] cF
theorem iH:SX iL:=fq Tryz.f144 [.tmp 4] {fn:=144} (.b .o (.b (.b .o (.u (.lp (JI 8) .o))) .o)) (c1 wH<|bS)
def g9:cV Sx:=kO 69 [oA 0,.one (.fn 70 [] [])] [.arr 72 (.st 4) true] [mK (oA 0) [.kept],mK (oA 1) [.gone,.now (.arr 72 (.st 4) true)]] cx
theorem g7:SX g9:=fq Tryz.f69 [.tmp 4] {lL:=[25],parts:=[25],fn:=69} (.b .o (.b .o (.b .o (.b (.b .o (.j (JO [(5,oI)] [.arr 72 (.st 4) true] [(0,0)]) (.u (.lp (JO [(5,oI),(6,oI)] [.arr 72 (.st 4) true] [(0,0)]) .o)))) .o)))) (c1 iH<|c1 wH<|bS)
def DK:cV Sx:=kK 72 [oS 4,oS 4] oI (s2 cL)
theorem gg:SX DK:=fq Tryz.f72 [.tmp 4] {fn:=72} .o (c1 tP<|bS)
def iZ:cV Sx:={f:=206,ins:=[oA 0,oI,oI,.one (.fn 72 [] [])],eW:=[.arr 72 (.st 4) true],ls:=[(.sl (.st 4)),cI,cI],pm:=[2,0,1],bk:=[1,2,0],outs:=[mK (.mf []) [.now (.arr 72 (.st 4) true)]],pL:=fun x=>eI x.1 x.2.1 x.2.2}
theorem iW:SX iZ:=fq Tryz.f206 [] {lL:=[25],fn:=206} (.b .o (.u (.lp (JO [(8,oI)] [.arr 72 (.st 4) true] [(0,0)]) (.b .o (.b (.u (.b .o (.u (.lp (JO [(9,oI)] [.arr 72 (.st 4) true] [(0,0)]) (.b (.b (.j (JB 34) .o) .o) .o))))) .o))))) (c1 gg<|bS)
def ku:cV Sx:={f:=247,ins:=[oA 0,oI,oI,oI,.one (.fn 72 [] [])],eW:=[.arr 72 (.st 4) true],ls:=[(.sl (.st 4)),cI,cI,cI],pm:=[3,0,1,2],bk:=[1,2,3,0],outs:=[mK (.mf []) [.now (.arr 72 (.st 4) true)]],pL:=fun x=>dH x.1 x.2.1 x.2.2.1 x.2.2.2}
theorem kj:SX ku:=fq Tryz.f247 [] {lL:=[25],fn:=247} (.b .o (.u (.lp (JO [(10,oI)] [.arr 72 (.st 4) true] [(0,0)]) (.u (.b .o (.b .o (.b (.b (.j (JB 40) .o) (.j (JI 11) .o)) .o))))))) (c1 gg<|bS)
def ko:cV Sx:={f:=207,ins:=[oA 0,oI,oI,.one (.fn 72 [] [])],eW:=[.arr 72 (.st 4) true],ls:=[(.sl (.st 4)),cI,cI],pm:=[2,0,1],bk:=[1,2,0],outs:=[mK (.mf []) [.now (.arr 72 (.st 4) true)]],pL:=fun x=>fh x.1 x.2.1 x.2.2}
theorem kf:SX ko:=fq Tryz.f207 [] {lL:=[25],fn:=207} (.b .o (.b .o (.b .o (.b (.b .o (.j (JO [] [.arr 72 (.st 4) true] [(0,0)]) (.u (.lp (JO [(11,oI)] [.arr 72 (.st 4) true] [(0,0)]) .o)))) (.b .o (.u (.lp (JO [(12,oI)] [.arr 72 (.st 4) true] [(0,0)]) .o))))))) (c1 kj<|bS)
def iY:cV Sx:={f:=208,ins:=[oA 0,oI,oI,.one (.fn 72 [] [])],eW:=[.arr 72 (.st 4) true],ls:=[(.sl (.st 4)),cI,cI],pm:=[2,0,1],bk:=[1,2,0],outs:=[mK (.mf []) [.now (.arr 72 (.st 4) true)]],pL:=fun x=>eH x.1 x.2.1 x.2.2}
theorem iV:SX iY:=fq Tryz.f208 [] {lL:=[25],fn:=208} (.b .o (.b .o (.b (.b .o (.b .o (.b .o (.u (.lp (JO [(11,oI)] [.arr 72 (.st 4) true,.box 277 [.da (.int .u64)]] [(0,0),(1,769)]) (.b .o (.b (.u (.b .o (.b (.b .o (.j (JI 12) .o)) .o))) .o))))))) .o))) (c1 oe<|c1 pK<|bS)
def ly:cV Sx:={f:=275,ins:=[oA 0,oI,oI,oP 1 0,.one (.fn 72 [] [])],eW:=[.arr 72 (.st 4) true,.box 3 [.da cI]],ls:=[(.sl (.st 4)),cI,cI,cI],pm:=[2,0,1,3],bk:=[1,2,0,3],outs:=[mK (.mf [oI,oI]) [.kept,.now (.box 3 [.da cI])]],pL:=fun x=>c8 x.1 x.2.1 x.2.2.1 x.2.2.2}
theorem ln:SX ly:=fq Tryz.f275 [.tmp 10,.tmp 11] {fn:=275} .o (c1 gg<|bS)
def lx:cV Sx:={f:=249,ins:=[oA 0,oI,oI,oI,oP 1 0,.one (.fn 72 [] [])],eW:=[.arr 72 (.st 4) true,.box 3 [.da cI]],ls:=[(.sl (.st 4)),cI,cI,cI,cI],pm:=[3,0,1,2,4],bk:=[1,2,3,0,4],outs:=[mK oI [.kept,.now (.box 3 [.da cI])]],pL:=fun x=>dL x.1 x.2.1 x.2.2.1 x.2.2.2.1 x.2.2.2.2}
theorem e8:SX lx:=fq Tryz.f249 [.tmp 12] {fn:=249} .o (c1 ln<|bS)
def iM:cV Sx:={f:=248,ins:=[oA 0,oI,oP 1 0,.one (.fn 72 [] [])],eW:=[.arr 72 (.st 4) true,.box 3 [.da cI]],ls:=[(.sl (.st 4)),cI,cI],pm:=[1,0,2],bk:=[1,0,2],outs:=[mK oI [.kept,.now (.box 3 [.da cI])]],pL:=fun x=>cG x.1 x.2.1 x.2.2}
theorem iI:SX iM:=fq Tryz.f248 [.tmp 8] {fn:=248} .o (c1 e8<|bS)
def jz:cV Sx:={f:=209,ins:=[oA 0,oI,oI,.one (.fn 72 [] [])],eW:=[.arr 72 (.st 4) true],ls:=[(.sl (.st 4)),cI,cI],pm:=[2,0,1],bk:=[1,2,0],outs:=[mK (.mf [oI,oI]) [.kept]],pL:=fun x=>eR x.1 x.2.1 x.2.2}
theorem jt:SX jz:=fq Tryz.f209 [.tmp 8,.tmp 9] {fn:=209} (.b .o (.b .o (.b .o (.b .o (.b .o (.b .o (.b (.b .o (.j (JO [(13,oI)] [.box 3 [.da cI]] [(0,641)]) (.b (.b (.b .o (.j (JO [(12,oI),(13,oI),(14,oI)] [.box 3 [.da cI]] [(0,641)]) .o)) .o) .o))) .o))))))) (c1 iI<|c1 e8<|bS)
def jr:cV Sx:={f:=210,ins:=[oA 0,oI,oI,.one (.fn 72 [] [])],eW:=[.arr 72 (.st 4) true],ls:=[(.sl (.st 4)),cI,cI],pm:=[2,0,1],bk:=[1,2,0],outs:=[mK (.mf []) [.now (.arr 72 (.st 4) true)]],pL:=fun x=>eM x.1 x.2.1 x.2.2}
theorem jh:SX jr:=fq Tryz.f210 [] {lL:=[25],fn:=210} (.b .o (.b .o (.u (.lp (JO [(8,oI),(9,oI)] [.arr 72 (.st 4) true] [(0,0)]) .o)))) (bS)
def gP:cV Sx:={f:=211,ins:=[oA 0,oI,oI,.one (.fn 72 [] [])],eW:=[.arr 72 (.st 4) true],ls:=[(.sl (.st 4)),cI,cI],pm:=[2,0,1],bk:=[1,2,0],outs:=[mK oB [.now (.arr 72 (.st 4) true)]],pL:=fun x=>dT x.1 x.2.1 x.2.2}
theorem gH:SX gP:=fq Tryz.f211 [.tmp 8] {lL:=[25],fn:=211} (.b .o (.b .o (.b (.b .o (.u (.lp (JO [(9,oI),(10,oI)] [.arr 72 (.st 4) true] [(0,0)]) (.b .o (.b (.u (.b (.j (JI 9) (.u (.lp (JI 9) (.b (.b (.j (JB 36) .o) .o) .o)))) (.b .o (.b .o (.b .o (.b (.b .o (.j (JO [] [.arr 72 (.st 4) true] [(0,0)]) (.b (.b .o (.u (.lp (JO [(11,oI)] [.arr 72 (.st 4) true] [(0,0)]) .o))) .o))) (.b .o (.b (.b .o (.u (.lp (JO [(12,oI)] [.arr 72 (.st 4) true] [(0,0)]) .o))) .o)))))))) .o))))) .o))) (c1 gg<|bS)
def iP:cV Sx:={f:=212,ins:=[oA 0,oI,oI,oI,.one (.fn 72 [] [])],eW:=[.arr 72 (.st 4) true],ls:=[(.sl (.st 4)),cI,cI,cI],pm:=[3,0,1,2],bk:=[1,2,3,0],outs:=[mK oI [.now (.arr 72 (.st 4) true)]],pL:=fun x=>eC x.1 x.2.1 x.2.2.1 x.2.2.2}
theorem iK:SX iP:=fq Tryz.f212 [.tmp 10] {lL:=[25],fn:=212} (.b .o (.b .o (.b .o (.b (.u (.lp (JO [(11,oI),(12,oI)] [.arr 72 (.st 4) true] [(0,0)]) (.u (.b (.j (JI 11) (.u (.lp (JI 11) (.b (.b (.j (JB 47) .o) .o) .o)))) (.b (.j (JI 12) (.u (.lp (JI 12) (.b (.b (.j (JB 65) .o) .o) .o)))) .o))))) .o)))) (c1 gg<|bS)
def jT:cV Sx:={f:=213,ins:=[oA 0,oI,oI,oI,.one (.fn 72 [] [])],eW:=[.arr 72 (.st 4) true],ls:=[(.sl (.st 4)),cI,cI,cI],pm:=[3,0,1,2],bk:=[1,2,3,0],outs:=[mK (.mf [oI,oB]) [.now (.arr 72 (.st 4) true)]],pL:=fun x=>eZ x.1 x.2.1 x.2.2.1 x.2.2.2}
theorem jQ:SX jT:=fq Tryz.f213 [.tmp 10,.tmp 11] {lL:=[25],fn:=213} (.b .o (.b .o (.b .o (.b (.j (JI 12) (.u (.lp (JI 12) (.b (.b (.j (JB 47) .o) .o) .o)))) (.b (.j (JI 13) (.u (.lp (JI 13) (.b (.b (.j (JB 66) .o) .o) .o)))) (.b .o (.b .o (.b .o (.b .o (.b (.j (JO [(13,oI)] [.arr 72 (.st 4) true] [(0,0)]) (.u (.lp (JO [(12,oI),(13,oI)] [.arr 72 (.st 4) true] [(0,0)]) (.u (.b (.j (JI 12) (.u (.lp (JI 12) (.b (.b (.j (JB 120) .o) .o) .o)))) (.b (.j (JI 13) (.u (.lp (JI 13) (.b (.b (.j (JB 139) .o) .o) .o)))) .o)))))) .o)))))))))) (c1 gg<|bS)
def eS(g:((List bO)×Int×Int×Int)->Option (List bO)):cV Sx:={f:=145,ins:=[oA 0,oI,oI,oI,.one (.fn 72 [] [])],eW:=[.arr 72 (.st 4) true],ls:=[(.sl (.st 4)),cI,cI,cI],pm:=[3,0,1,2],bk:=[1,2,3,0],outs:=[{out:=.mf [],lB:=[.now (.arr 72 (.st 4) true)],Bo:=[(.sl (.st 4))]}],pL:=g}
def kU:cV Sx:={f:=145,ins:=[oA 0,oI,oI,oI,.one (.fn 72 [] [])],eW:=[.arr 72 (.st 4) true],ls:=[(.sl (.st 4)),cI,cI,cI],pm:=[3,0,1,2],bk:=[1,2,3,0],outs:=[mK (.mf []) [.now (.arr 72 (.st 4) true)]],pL:=fun x=>fA x.1 x.2.1 x.2.2.1 x.2.2.2}
theorem kP:SX kU:=Dk (c:=eS fun _=>none) (F:=dD) fun g hg=>fq (c:=eS (dD g)) Tryz.f145 [] {fn:=145} (.b .o (.b .o (.u (.lp (JO [(1,oI),(2,oI),(3,oI),(10,oB),(11,oB)] [.arr 72 (.st 4) true] [(0,0)]) (.u (.b .o (.b .o (.b .o (.b (.b .o (.j (JO [(3,oI)] [.arr 72 (.st 4) true] [(0,0)]) .o)) (.b .o (.b (.b .o (.j (JO [(13,oI),(14,oI)] [.arr 72 (.st 4) true] [(0,0)]) .o)) (.b (.b (.j (JB 75) .o) (.j {JO [] [.arr 72 (.st 4) true] [(0,0)]with early:=true} .o)) (.b (.b (.j (JB 97) .o) .o) .o))))))))))))) (c1 hg<|c1 iW<|c1 kf<|c1 iV<|c1 jt<|c1 jh<|c1 gH<|c1 gg<|c1 iK<|c1 jQ<|bS)
def iu:cV Sx:=kO 71 [oA 0,.one (.fn 72 [] [])] [.arr 72 (.st 4) true] [mK (.mf []) [.now (.arr 72 (.st 4) true)]] cD
theorem il:SX iu:=fq Tryz.f71 [] {lL:=[25],fn:=71} .o (c1 so<|c1 kP<|bS)
def Fp:cV Sx:=kK 21 [oD cT,oD (.sl (.st 4))] (oD (.sl (.st 4))) (s2 ft)
theorem qi:SX Fp:=fq Tryz.f21 [.tmp 4] {lL:=[25],pre:=[(4,0,.Y9)],fn:=21} (.b .o (.b .o (.b .o (.b (.b .o (.j (JO [(6,oA 0)] [.arr 72 (.st 4) true] []) (.u (.lp {JO [(6,oA 0),(17,oI)] [.arr 72 (.st 4) true] []with pre:=[(6,0,.arr 72 (.st 4))]} .o)))) (.b .o (.b (.j {JO [(11,oA 0)] [.arr 72 (.st 4) true] []with kill:=[9,30,38,39]} .o) (.b .o (.b (.z [(11,0,.Y9)] .o) .o)))))))) (c1 wk<|c1 vS<|c1 Fg<|c1 g7<|c1 il<|bS)
def Fq:cV Sx:=kK 29 [oD cT,oS 6] (.mf [oS 6,oS 8]) (s2 tv)
theorem E5:SX Fq:=fq Tryz.f29 [.cell 4 27,.cell 5 30] {fn:=29} .o (c1 Jv<|c1 qi<|c1 z5<|bS)
def Fu:cV Sx:=kK 86 [oS 4,oS 4] oB (s2 tB)
theorem E7:SX Fu:=fq Tryz.f86 [.tmp 4] {fn:=86} .o (bS)
def Hg:cV Sx:=kK 35 [oD (.sl (.st 4)),oD (.sl (.st 4))] oB (s2 mV)
theorem ve:SX Hg:=fq Tryz.f35 [.tmp 4] {fn:=35} (.b .o (.b .o (.b (.b .o (.u (.lp (JI 5) .o))) .o))) (c1 E7<|bS)
def Ey:cV Sx:=kK 28 [] oB (fun _=>eu)
theorem oH:SX Ey:=fq Tryz.f28 [.tmp 0] {fn:=28} .o (c1 GI<|c1 E5<|c1 ve<|bS)
def Hf:cV Sx:=kK 129 [] oI (fun _=>fu)
theorem zF:SX Hf:=fq Tryz.f129 [.tmp 0] {fn:=129} .o (bS)
def Hh:cV Sx:=kK 196 [oS 4] oI kY
theorem qZ:SX Hh:=fq Tryz.f196 [.tmp 2] {fn:=196} .o (bS)
def DQ:cV Sx:=kK 132 [oS 4] (oS 13) gN
theorem n4:SX DQ:=fq Tryz.f132 [.cell 2 92] {fn:=132} .o (c1 qZ<|bS)
def Ez:cV Sx:=kK 235 [oS 13] oB o9
theorem D3:SX Ez:=fq Tryz.f235 [.tmp 2] {fn:=235} .o (c1 zF<|bS)
def DP:cV Sx:=kK 166 [oS 4] (oS 13) nJ
theorem wL:SX DP:=fq Tryz.f166 [.cell 2 92] {fn:=166} .o (bS)
def EA:cV Sx:=kK 195 [oS 4] oI rV
theorem D4:SX EA:=fq Tryz.f195 [.tmp 2] {fn:=195} (.b .o (.b (.b (.j (JB 10) .o) .o) (.b .o (.b .o (.b (.b (.j (JB 32) .o) .o) (.b (.b (.j (JB 45) .o) .o) .o)))))) (c1 qZ<|c1 n4<|c1 D3<|c1 wL<|bS)
def DR:cV Sx:=kK 130 [oS 6,oS 4] oI (s2 qR)
theorem CX:SX DR:=fq Tryz.f130 [.tmp 4] {fn:=130} (.b .o (.b .o (.b .o (.b (.b (.j (JB 23) .o) .o) .o)))) (c1 D4<|c1 qZ<|bS)
def Cd:cV Sx:=kK 131 [oS 13,oS 13] (oS 13) (s2 jU)
theorem vr:SX Cd:=fq Tryz.f131 [.cell 4 92] {fn:=131} .o (bS)
def He:cV Sx:=kK 215 [oS 13,oI] oB (s2 yr)
theorem GA:SX He:=fq Tryz.f215 [.tmp 4] {fn:=215} .o (bS)
def Hk:cV Sx:=kK 152 [oS 4,oI] oB (s2 uJ)
theorem GF:SX Hk:=fq Tryz.f152 [.tmp 4] {fn:=152} .o (c1 n4<|c1 GA<|bS)
def Fv:cV Sx:=kK 81 [oS 6,oI] oI (s2 nA)
theorem E8:SX Fv:=fq Tryz.f81 [.tmp 4] {fn:=81} (.b .o (.b (.b .o (.u (.lp (JI 5) .o))) .o)) (c1 GF<|bS)
def Hj:cV Sx:=kK 133 [oS 6] oI uH
theorem GD:SX Hj:=fq Tryz.f133 [.tmp 2] {fn:=133} (.b .o (.b .o (.b (.b .o (.u (.lp (J [(3,oI),(4,oI)]) (.b .o (.b (.u (.b .o (.b (.b .o (.j (JI 5) .o)) (.b (.j (JB 46) .o) .o)))) .o))))) .o))) (c1 qZ<|c1 E8<|bS)
def EB:cV Sx:=kK 57 [oS 6] (.mf [oI,oI]) jV
theorem D5:SX EB:=fq Tryz.f57 [.tmp 2,.tmp 3] {fn:=57} (.b .o (.b (.b (.j (JB 28) .o) .o) (.b (.b .o (.j {early:=true} (.u (.lp (JI 4) .o)))) (.b (.b .o (.j {early:=true} (.u (.lp (JI 6) (.b .o (.b (.u (.b .o (.u (.lp (JI 7) .o)))) .o)))))) .o)))) (c1 zF<|c1 CX<|c1 n4<|c1 vr<|c1 GD<|bS)
def EG:cV Sx:=kK 98 [oS 4,oS 4] oI (s2 pb)
theorem D9:SX EG:=fq Tryz.f98 [.tmp 4] {fn:=98} .o (c1 wL<|c1 n4<|c1 vr<|bS)
def EF:cV Sx:=kO 43 [oD (.sl (.st 4))] [] [mK (oP 0 0) [.now (.box 134 [.da cI,.rw 1 (.st 12)]),.now (.row 138 (.st 12))]] ic
theorem oJ:SX EF:=fq Tryz.f43 [.tmp 2] {fn:=43} (.b .o (.b .o (.b (.b .o (.u (.lp {JO [(3,oP 0 0),(4,oI)] [.box 134 [.da cI,.rw 1 (.st 12)],.row 138 (.st 12)] [(0,513)]with kill:=[9],pre:=[(3,2,.own 138 (.st 12))]} (.b .o (.b (.u (.b .o (.u (.lp (JO [(3,oP 0 0),(5,oI)] [.box 134 [.da cI,.rw 1 (.st 12)],.row 138 (.st 12)] [(0,513)]) (.b .o (.b (.u (.b (.j (JB 36) .o) .o)) .o)))))) .o))))) .o))) (c1 D9<|bS)
def Je:cV Sx:=kK 164 [oI,oD (.sl cI)] oB (s2 wc)
theorem Il:SX Je:=fq Tryz.f164 [.tmp 4] {fn:=164} (.b .o (.b (.b .o (.u (.lp (JI 5) .o))) .o)) (bS)
def Ce:cV Sx:=kO 95 [oP 0 0,oD (.sl cI)] [.box 134 [.da cI,.rw 1 (.st 12)],.row 138 (.st 12)] [mK (oP 2 0) [.kept,.kept,.now (.box 134 [.da cI,.rw 3 (.st 12)]),.now (.row 138 (.st 12))]] (s3 mX)
theorem vt:SX Ce:=fq Tryz.f95 [.tmp 4] {fn:=95} (.b .o (.b .o (.b (.b .o (.u (.lp {JO [(6,oI)] [.box 134 [.da cI,.rw 1 (.st 12)],.row 138 (.st 12)] [(0,641)]with pre:=[(5,2,.own 138 (.st 12))]} (.b .o (.b (.u (.b (.j (JB 45) .o) .o)) .o))))) .o))) (c1 Il<|bS)
def EE:cV Sx:=kO 228 [oP 0 0,oI] [.box 134 [.da cI,.rw 1 (.st 12)],.row 138 (.st 12)] [mK (.one (.rw 2 cI)) [.kept,.kept,.now (.row 3 cI)]] (s3 r9)
theorem D8:SX EE:=fq Tryz.f228 [.tmp 4] {lL:=[301],fn:=228} (.b .o (.b .o (.b .o (.b (.j (JO [] [.arr 4 .bo true] [(0,577)]) (.u (.lp (JO [(6,oB)] [.arr 4 .bo true] [(0,577)]) (.b .o (.u (.b .o (.b .o (.u (.lp (JO [(6,oB),(7,oI)] [.arr 4 .bo true] [(0,577)]) (.b .o (.b (.u (.b .o (.b (.j (JB 51) .o) .o))) .o))))))))))) (.b .o (.b (.b .o (.u (.lp {JO [(9,.one (.rw 0 cI)),(10,oI)] [.row 3 cI] []with pre:=[(9,0,.own 3 cI)]} .o))) .o)))))) (bS)
def Jf:cV Sx:=kK 96 [oI,oD (.sl cI)] oB (s2 qI)
theorem vT:SX Jf:=fq Tryz.f96 [.tmp 4] {fn:=96} (.b .o (.b (.b .o (.u (.lp (JI 5) .o))) .o)) (bS)
def DS:cV Sx:=kO 178 [oP 0 0,oD (.sl cI)] [.box 134 [.da cI,.rw 1 (.st 12)],.row 138 (.st 12)] [mK (.one (.rw 2 cI)) [.kept,.kept,.now (.row 3 cI)]] (s3 nL)
theorem wM:SX DS:=fq Tryz.f178 [.tmp 4] {fn:=178} (.b .o (.b .o (.b .o (.b (.b .o (.u (.lp {JO [(6,.one (.rw 0 cI)),(7,oI)] [.row 3 cI] []with pre:=[(6,0,.own 3 cI)]} .o))) .o)))) (c1 vt<|c1 D8<|c1 vT<|bS)
def Jg:cV Sx:=kK 229 [oI,oD (.sl cI)] oB (s2 zW)
theorem Im:SX Jg:=fq Tryz.f229 [.tmp 4] {fn:=229} (.b .o (.b (.b .o (.u (.lp (JI 5) .o))) .o)) (bS)
def DU:cV Sx:=kK 230 [oD (.sl cI),oI] oI (s2 nN)
theorem CZ:SX DU:=fq Tryz.f230 [.tmp 4] {fn:=230} (.b .o (.b (.b (.j (JB 12) .o) .o) .o)) (bS)
def Fz:cV Sx:=kO 179 [oP 0 0,oD (.sl cI),oD (.sl cI),oD (.sl cI)] [.box 134 [.da cI,.rw 1 (.st 12)],.row 138 (.st 12)] [mK oI [.kept,.kept]] (fun x=>tD x.1 x.2.1 x.2.2.1 x.2.2.2.1 x.2.2.2.2)
theorem Fa:SX Fz:=fq Tryz.f179 [.tmp 8] {fn:=179} (.b .o (.b .o (.b .o (.b (.b .o (.u (.lp (J [(9,oI),(11,oI)]) (.b .o (.b (.u (.b (.j (JB 43) .o) .o)) .o))))) .o)))) (c1 wM<|c1 Im<|c1 CZ<|bS)
def DT:cV Sx:=kO 101 [oP 0 0,oD (.sl cI),oD (.sl cI)] [.box 134 [.da cI,.rw 1 (.st 12)],.row 138 (.st 12)] [mK (.mf [.one (.rw 2 cI),oB]) [.kept,.kept,.now (.row 3 cI)]] (s4 uL)
theorem CY:SX DT:=fq Tryz.f101 [.tmp 6,.tmp 7] {pre:=[(6,0,.own 3 cI)],fn:=101} (.b .o (.b .o (.b (.u (.lp {JO [(8,.one (.rw 0 cI))] [.row 3 cI] []with pre:=[(8,0,.own 3 cI)]} .o)) .o))) (c1 wM<|c1 Fa<|bS)
def Cg:cV Sx:=kO 47 [oD (.sl (.st 4))] [] [mK (.one (.rw 0 cI)) [.now (.row 3 cI)]] hZ
theorem np:SX Cg:=fq Tryz.f47 [.tmp 2] {fn:=47} (.b .o (.b .o (.b (.b .o (.j (JO [(3,.one (.rw 0 cI))] [.row 3 cI] []) (.u (.lp {JO [(3,.one (.rw 0 cI)),(4,oI)] [.row 3 cI] []with pre:=[(3,0,.own 3 cI)]} .o)))) .o))) (c1 oJ<|c1 CY<|bS)
def Hl:cV Sx:=kO 222 [oP 0 0,oS 12] [.box 134 [.da cI,.rw 1 (.st 12)],.row 138 (.st 12)] [mK oB [.kept,.kept]] (s3 uK)
theorem GH:SX Hl:=fq Tryz.f222 [.tmp 4] {fn:=222} (.b .o (.b (.b .o (.u (.lp (JI 5) .o))) .o)) (bS)
def Jd:cV Sx:=kO 165 [oP 0 0,oI] [.box 134 [.da cI,.rw 1 (.st 12)],.row 138 (.st 12)] [mK (.one (.rw 2 cI)) [.kept,.kept,.now (.row 3 cI)]] (s3 wa)
theorem Ik:SX Jd:=fq Tryz.f165 [.tmp 4] {fn:=165} (.b .o (.b .o (.b (.b .o (.u (.lp {JO [(5,.one (.rw 0 cI)),(6,oI)] [.row 3 cI] []with pre:=[(5,0,.own 3 cI)]} .o))) .o))) (c1 GH<|bS)
def Fy:cV Sx:=kO 97 [oP 0 0,oI,oD (.sl cI)] [.box 134 [.da cI,.rw 1 (.st 12)],.row 138 (.st 12)] [mK oB [.kept,.kept]] (s4 tC)
theorem E9:SX Fy:=fq Tryz.f97 [.tmp 6] {fn:=97} (.b .o (.b .o (.b (.b .o (.u (.lp (JI 8) .o))) .o))) (c1 Ik<|c1 vT<|bS)
def EI:cV Sx:=kO 42 [oP 0 0,oD (.sl cI)] [.box 134 [.da cI,.rw 1 (.st 12)],.row 138 (.st 12)] [mK (.mf [.one (.rw 2 cI),oB]) [.kept,.kept,.now (.row 3 cI)]] (s3 pf)
theorem xt:SX EI:=fq Tryz.f42 [.tmp 4,.tmp 5] {pre:=[(4,0,.own 3 cI)],fn:=42} (.b .o (.b .o (.b .o (.u (.lp {JO [(7,.one (.rw 0 cI))] [.row 3 cI] []with pre:=[(7,0,.own 3 cI)]} (.u (.b .o (.b .o (.b (.b .o (.j (J [(8,oI),(9,oB)]) (.u (.lp (J [(8,oI),(9,oB),(10,oI)]) (.b .o (.b (.u (.b (.b (.j (JB 30) .o) .o) .o)) .o)))))) .o))))))))) (c1 vt<|c1 vT<|c1 E9<|bS)
def EJ:cV Sx:=kO 48 [oD (.sl (.st 4))] [] [mK (.one (.rw 0 cI)) [.now (.row 3 cI)]] pg
theorem xu:SX EJ:=fq Tryz.f48 [.tmp 2] {fn:=48} (.b .o (.b .o (.b (.b .o (.j {JO [(3,.one (.rw 0 cI))] [.row 3 cI] []with kill:=[8]} (.u (.lp {JO [(3,.one (.rw 0 cI)),(4,oI)] [.row 3 cI] []with kill:=[8]} .o)))) .o))) (c1 np<|c1 oJ<|c1 xt<|bS)
def Jc:cV Sx:=kK 155 [oI,oD (.sl cI)] oB (s2 sV)
theorem Ij:SX Jc:=fq Tryz.f155 [.tmp 4] {fn:=155} (.b .o (.b (.b .o (.u (.lp (JI 5) .o))) .o)) (bS)
def Fx:cV Sx:=kK 32 [oS 6,oD (.sl (.st 4))] (oS 6) (s2 nC)
theorem tQ:SX Fx:=fq Tryz.f32 [.cell 4 27] {fn:=32} .o (bS)
def B2:cV Sx:=kK 87 [oD cT,oS 6,oD (.sl cI)] (oS 6) (s3 oC)
theorem BM:SX B2:=fq Tryz.f87 [.cell 6 27] {fn:=87} (.b .o (.b .o (.b (.b .o (.j (JO [(7,.one (.rw 1 (.st 4)))] [.box 27 [.da cI,.da cI,.da (.a8 32),.da (.a8 32),.rw 2 (.st 4)],.row 72 (.st 4),.row 72 (.st 4)] [(0,321)]) (.u (.lp {JO [(7,.one (.rw 1 (.st 4))),(8,oI)] [.box 27 [.da cI,.da cI,.da (.a8 32),.da (.a8 32),.rw 2 (.st 4)],.row 72 (.st 4),.row 72 (.st 4)] [(0,321)]with pre:=[(6,5,.own 72 (.st 4)),(7,0,.own 72 (.st 4))]} (.b .o (.b (.u (.b .o (.b (.b (.j (JB 29) .o) (.j (JO [] [.box 72 [.da (.st 4)]] [(0,1409)]) .o)) .o))) .o)))))) .o))) (c1 Ij<|c1 tQ<|bS)
def Fw:cV Sx:=kO 36 [oD (.sl (.st 4))] [] [mK (.one (.rw 0 (.st 4))) [.now (.row 72 (.st 4))]] nB
theorem yM:SX Fw:=fq Tryz.f36 [.tmp 2] {fn:=36} (.b .o (.b .o (.b (.b .o (.u (.lp {JO [(3,.one (.rw 0 (.st 4))),(4,oI)] [.row 72 (.st 4)] []with pre:=[(3,0,.own 72 (.st 4))]} (.b .o (.b (.u (.b .o (.b (.j (JI 5) (.u (.lp (JI 5) (.b (.b (.j (JB 29) .o) .o) .o)))) .o))) .o))))) .o))) (bS)
def Cf:cV Sx:=kO 37 [oD cT,oD (.sl (.st 4))] [] [mK (.one (.rw 0 (.st 4))) [.now (.row 72 (.st 4))]] (s2 hU)
theorem vu:SX Cf:=fq Tryz.f37 [.tmp 4] {fn:=37} (.b .o (.b .o (.b .o (.b (.b .o (.j (JO [(5,.one (.rw 0 (.st 4)))] [.row 72 (.st 4)] []) (.u (.lp {JO [(5,.one (.rw 0 (.st 4))),(7,oI)] [.row 72 (.st 4)] []with pre:=[(5,0,.own 72 (.st 4))]} .o)))) (.b .o (.b .o (.b (.b .o (.j (JO [(9,.one (.rw 0 (.st 4)))] [.row 72 (.st 4)] []) (.u (.lp {JO [(9,.one (.rw 0 (.st 4))),(10,oI)] [.row 72 (.st 4)] []with pre:=[(9,0,.own 72 (.st 4))]} .o)))) .o))))))) (c1 xu<|c1 np<|c1 BM<|c1 yM<|bS)
def EC:cV Sx:=kK 63 [oS 6] oB rY
theorem D6:SX EC:=fq Tryz.f63 [.tmp 2] {fn:=63} .o (c1 D5<|bS)
def ED:cV Sx:=kK 62 [oS 6] oB rZ
theorem D7:SX ED:=fq Tryz.f62 [.tmp 2] {fn:=62} .o (c1 GC<|c1 D6<|bS)
def EK:cV Sx:=kK 18 [oS 6] oB ie
theorem oL:SX EK:=fq Tryz.f18 [.tmp 2] {fn:=18} .o (c1 D7<|bS)
def Fs:cV Sx:=kK 33 [oS 6] (oD (.sl cI)) qu
theorem yI:SX Fs:=fq Tryz.f33 [.tmp 2] {fn:=33} .o (c1 wk<|bS)
def G8:cV Sx:=kK 34 [oS 6] oI oU
theorem u9:SX G8:=fq Tryz.f34 [.tmp 2] {fn:=34} (.b .o (.b .o (.b (.b .o (.u (.lp (J [(3,oI),(11,oI)]) .o))) .o))) (c1 wk<|bS)
def yW:cV Sx:=kK 6 [oD cT,oS 6] oB (s2 oZ)
theorem yJ:SX yW:=fq Tryz.f6 [.tmp 4] {fn:=6} (.b .o (.b (.b (.j (JB 23) .o) .o) .o)) (c1 oL<|c1 oH<|c1 qi<|c1 tQ<|c1 yI<|c1 u9<|c1 yM<|c1 ve<|c1 vu<|bS)
def Ku:cV Sx:=kK 41 [oS 6] (.mf [oI,oI]) uE
theorem Jp:SX Ku:=fq Tryz.f41 [.tmp 2,.tmp 3] {fn:=41} (.b .o (.b .o (.b (.b .o (.j (JI 4) (.u (.lp (J [(4,oI),(12,oI)]) .o)))) .o))) (c1 nY<|bS)
def yX:cV Sx:=kK 8 [oD cT,oS 6] oB (s2 o4)
theorem yK:SX yX:=fq Tryz.f8 [.tmp 4] {fn:=8} (.b .o (.b (.b (.j (JB 26) .o) .o) .o)) (c1 oL<|c1 oH<|c1 Jp<|c1 qi<|c1 tQ<|c1 u9<|c1 oJ<|c1 xt<|bS)
def I8:cV Sx:=kK 44 [oS 6] (oD (.sl cI)) zT
theorem Ie:SX I8:=fq Tryz.f44 [.tmp 2] {fn:=44} .o (c1 wk<|bS)
def A7:cV Sx:=kK 46 [oD (.sl cI),oD (.sl cI)] oB (s2 ig)
theorem AU:SX A7:=fq Tryz.f46 [.tmp 4] {fn:=46} (.b .o (.b .o (.b (.b .o (.u (.lp (JI 13) .o))) .o))) (bS)
def DV:cV Sx:=kK 49 [oD (.sl (.st 4))] oI qS
theorem C5:SX DV:=fq Tryz.f49 [.tmp 2] {fn:=49} (.b .o (.b .o (.b .o (.b (.b .o (.u (.lp (J [(3,oI),(5,oI)]) .o))) .o)))) (c1 np<|bS)
def yY:cV Sx:=kK 9 [oS 6] oB o8
theorem yL:SX yY:=fq Tryz.f9 [.tmp 2] {lL:=[56],fn:=9} (.b .o (.b .o (.b .o (.b .o (.b .o (.b .o (.b (.b .o (.j (JO [(6,oA 0)] [.arr 3 cI true] []) (.u (.lp {JO [(6,oA 0),(27,oI)] [.arr 3 cI true] []with pre:=[(6,0,.arr 3 cI)]} .o)))) (.b (.z [(5,0,.Y9),(6,0,.Y9)] .o) .o)))))))) (c1 oL<|c1 oH<|c1 yI<|c1 Ie<|c1 ny<|c1 np<|c1 AU<|c1 xu<|c1 u9<|c1 C5<|bS)
def yZ:cV Sx:=kO 102 [oD (.sl cI)] [] [mK (.one (.fn 180 [] [.ptr 0 0])) [.now (.box 56 [.da (.sl cI)])]] pz
theorem yO:SX yZ:=fq Tryz.f102 [.tmp 2] {fn:=102} .o (bS)
def zL:cV Sx:=kO (E.Y5 50003) [.one (.yl 0),oI,oI] [.loop 50003 .ready [(5,oP 1 0)],.box 143 [.nT 2],.map 143 cI cI] [mK (.one (.tt true)) [.now (.loop 50003 .ready [(5,oP 1 0)]),.kept,.now (.map 143 cI cI)]] (s3 pY)
theorem zd:SX zL:=yq 50003 54 [17,18] {fn:=50,rd:=true} (.b .o .o) (bS)
def nF:cV Sx:=kO 180 [.one (.yl 0),oP 1 0] [.loop 50003 .ready [(5,oP 2 0)],.box 56 [.da (.sl cI)],.box 143 [.nT 3],.map 143 cI cI] [mK (.mf []) [.now (.loop 50003 .ready [(5,oP 2 0)]),.kept,.now (.box 143 [.nT 3]),.now (.map 143 cI cI)]] (s2 dE)
theorem nw:SX nF:=fq Tryz.f180 [] {fn:=180} (.b .o (.u (.lp (JO [(3,oI)] [.loop 50003 .ready [(5,oP 1 0)],.box 143 [.nT 2],.map 143 cI cI] [(0,0),(1,2),(2,3)]) .o))) (c1 zd<|bS)
def Ah:cV Sx:=kO 103 [oI,oP 0 0,oP 1 0] [.box 143 [.nT 2],.box 56 [.da (.sl cI)],.map 143 cI cI] [mK oI [.kept,.kept,.kept]] (s3 gQ)
theorem zZ:SX Ah:=fq Tryz.f103 [.tmp 4] {fn:=103} .o (bS)
def B0:cV Sx:=kO 50 [oD (.sl (.st 4)),oD (.sl cI)] [] [mK (.one (.rw 0 (.st 11))) [.now (.row 151 (.st 11))]] (s2 oy)
theorem BK:SX B0:=fq Tryz.f50 [.tmp 4] {fn:=50} (.b .o (.b .o (.b .o (.b .o (.b .o (.b .o (.b (.b .o (.u (.lp {JO [(9,.one (.rw 0 (.st 11))),(27,oI)] [.row 151 (.st 11)] []with pre:=[(9,0,.own 151 (.st 11))]} (.b .o (.b .o (.b (.u (.b .o (.b .o (.u (.lp (JO [(9,.one (.rw 0 (.st 11))),(34,oI)] [.row 151 (.st 11)] []) .o))))) .o)))))) .o))))))) (c1 yO<|c1 nw<|c1 zC<|c1 wK<|c1 zZ<|bS)
def EH:cV Sx:=kK 106 [oD (.sl cI),oI] oI (s2 pc)
theorem Ea:SX EH:=fq Tryz.f106 [.tmp 4] {fn:=106} (.b .o (.b (.b .o (.u (.lp (JI 5) .o))) .o)) (bS)
def Ai:cV Sx:=kO 51 [oD (.sl (.st 4)),oD (.sl cI)] [] [mK (.one (.rw 0 (.st 12))) [.now (.row 138 (.st 12))]] (s2 nj)
theorem z7:SX Ai:=fq Tryz.f51 [.tmp 4] {fn:=51} (.b .o (.b .o (.b .o (.b (.b .o (.u (.lp {JO [(5,.one (.rw 0 (.st 12))),(7,oI)] [.row 138 (.st 12)] []with pre:=[(5,0,.own 138 (.st 12))]} .o))) .o)))) (c1 oJ<|c1 Ea<|bS)
def yi:cV Sx:=kK 10 [oD cT,oS 6] oB (s2 n8)
theorem xN:SX yi:=fq Tryz.f10 [.tmp 4] {fn:=10} (.b .o (.b (.b (.j (JB 23) .o) .o) (.b .o (.b .o (.b (.b .o (.j {JO [(6,.one (.rw 0 cI))] [.row 3 cI] []with early:=true} (.u (.lp {JO [(6,.one (.rw 0 cI)),(31,oI)] [.row 3 cI] []with pre:=[(6,0,.own 3 cI)]} (.b .o (.b .o (.b (.u (.b .o (.b .o (.b (.j (JB 66) .o) .o)))) .o))))))) .o))))) (c1 oL<|c1 oH<|c1 qi<|c1 vu<|c1 ve<|c1 BK<|c1 z7<|bS)
end
end Go.Proofs.YtekpafdhgkocaaaGreat
