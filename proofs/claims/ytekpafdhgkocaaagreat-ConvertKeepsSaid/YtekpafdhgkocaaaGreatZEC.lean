/- Part of the proof. -/
import Derived.Test.YtekpafdhgkocaaaGreatZEG
import Derived.Test.YtekpafdhgkocaaaGreatZEO
namespace Go.Proofs.YtekpafdhgkocaaaGreat
open Go.RowKit G
open E
set_option maxRecDepth 100000
noncomputable section
abbrev cI:Co:=.int .i64
abbrev cT:Co:=.sl .u8
abbrev oD(c:Co):PS:=.one (.cX c)
abbrev oI:=oD cI
abbrev oB:=oD .bo
abbrev oP(i j:Nat):PS:=.one (.ptr i j)
abbrev oA(i:Nat):PS:=.one (.aw i)
abbrev oS(n:Nat):PS:=.agg [.cX (.st n)]
def cA:CS->List Co| .cX c=>[c]| .rw _ c=>[.sl c]|_=>[]
def cB:CS->List Co| .fn _ xs ys=>(xs++ys).flatMap cA|s=>cA s
def cP:PS->List Co| .one s=>cB s| .agg l=>l.flatMap cB|_=>[]
def cQ:PS->List Co| .mj l=>l.flatMap cP|p=>cP p
def cO:OS->List Co| .box _ l=>l.flatMap cB| .arr _ c _=>[.sl c]| .map _ k v=>[.mp k v]| .fo _ _ k c=>[.mp k (.sl c)]| .sL _ k v _=>[.mp k v]| .loop _ _ l=>l.flatMap fun x=>cQ x.2|_=>[]
def cK:KS->List Co| .now s=>cO s|_=>[]
abbrev lJ(l:List (Nat×PS))(eW:List OS):List Co:=l.flatMap (fun x=>cQ x.2)++eW.flatMap cO
abbrev lC(l:List PS)(eW:List OS):List Co:=l.flatMap cQ++eW.flatMap cO
abbrev lO(p:PS)(eW:List KS):List Co:=cQ p++eW.flatMap cK
def J(l:List (Nat×PS))(h:(Nat.ble l.length 190&&Nat.ble 0 190)=true:=by rfl):JA:={Xa:=l,eW:=[],ls:=lJ l [],J4:=h}
def JO(l:List (Nat×PS))(eW:List OS)(f:List (Nat×Nat))(h:(Nat.ble l.length 190&&Nat.ble eW.length 190)=true:=by rfl):JA:={Xa:=l,eW:=eW,ls:=lJ l eW,fx:=f,J4:=h}
def JI(n:Nat):JA:=J [(n,oI)]
def JB(n:Nat):JA:=J [(n,oB)]
abbrev mO(p:PS):Out:={out:=p,Bl:=lO p []}
abbrev mK(p:PS)(eW:List KS)(h:Nat.ble eW.length 30=true:=by rfl):Out:={out:=p,lB:=eW,Bl:=lO p eW,J4:=h}
abbrev kK(f:FuncId)(l:List PS)(o:PS)(pJ:HT Sx (lC l [])->Option (qX Sx [mO o])):cU Sx:={f:=f,ins:=l,ls:=lC l [],outs:=[mO o],pJ:=pJ}
abbrev kO(f:FuncId)(l:List PS)(eW:List OS)(os:List Out)(pJ:HT Sx (lC l eW)->Option (qX Sx os))(h:(Nat.ble eW.length 30&&os.all fun o=>Nat.ble eW.length o.lB.length)=true:=by rfl):cU Sx:={f:=f,ins:=l,eW:=eW,ls:=lC l eW,outs:=os,pJ:=pJ,J4:=h}
abbrev s2{a b d:Type}(f:a->b->d)(x:a×b):d:=f x.1 x.2
abbrev s3{a b c d:Type}(f:a->b->c->d)(x:a×b×c):d:=f x.1 x.2.1 x.2.2
abbrev s4{a b c e d:Type}(f:a->b->c->e->d)(x:a×b×c×e):d:=f x.1 x.2.1 x.2.2.1 x.2.2.2
def HN:cU Sx:=kK 27 [oS 6] oB o8
theorem vu:SX HN:=fq Tryz.f27 [.tmp 2] {fn:=27} (.b .o (.b (.b .o (.j {early:=true} (.u (.lp (JI 3) .o)))) .o)) (bR)
def MP:cU Sx:=kK 159 [] (.agg [.cX (.ai 8 .u32),.fP,.cX cI]) (fun _=>Jp)
theorem Ms:SX MP:=fq Tryz.f159 [.cell 0 212] {fn:=159} .o (bR)
def VL:cU Sx:=kO 89 [] [] [mK (oP 0 0) [.now (.box 215 [.cX (.ai 8 .u32),.rw 1 .u8,.cX cI]),.now (.row 5 .u8)]] (fun _=>DL)
theorem Mr:SX VL:=fq Tryz.f89 [.tmp 0] {pre:=[(0,2,.own 5 .u8)],fn:=89} .o (c1 Ms<|bR)
def SE:cU Sx:=kK 252 [] (.agg [.cX (.ai 64 .u32)]) (fun _=>vp)
theorem Jq:SX SE:=fq Tryz.f252 [.cell 0 297] {fn:=252} .o (bR)
def zL:cU Sx:=kK 253 [oD (.int .u32),oI] (oD (.int .u32)) (s2 bS)
theorem sy:SX zL:=fq Tryz.f253 [.tmp 4] {fn:=253} .o (bR)
def Gg:cU Sx:=kO 221 [oP 0 0,oD cT] [.box 215 [.cX (.ai 8 .u32),.rw 1 .u8,.cX cI],.row 5 .u8] [mK (.mj []) [.now (.box 215 [.cX (.ai 8 .u32),.rw 1 .u8,.cX cI]),.now (.row 5 .u8)]] (s4 lQ)
theorem FM:SX Gg:=fq Tryz.f221 [] {fn:=221} (.b .o (.b (.b .o (.j (JO [] [.box 296 [.cX (.ai 16 .u32)]] [(0,257)]) (.u (.lp (JO [(21,oI)] [.box 296 [.cX (.ai 16 .u32)]] [(0,257)]) .o)))) (.b .o (.b (.b .o (.j {JO [] [.box 210 [.cX (.ai 8 .u32)]] [(0,897)]with kill:=[4]} (.u (.lp (JO [(65,oI)] [.box 296 [.cX (.ai 16 .u32)],.box 210 [.cX (.ai 8 .u32)]] [(0,257),(1,897)]) (.b .o (.b .o (.b (.u (.b .o (.b (.b .o (.j (JO [] [.box 296 [.cX (.ai 16 .u32)]] [(0,257)]) .o)) .o))) .o))))))) (.b .o (.u (.lp (JO [(182,oI)] [.box 215 [.cX (.ai 8 .u32),.rw 1 .u8,.cX cI],.row 5 .u8] [(0,0),(1,1)]) .o))))))) (c1 Jq<|c1 sy<|bR)
def HW:cU Sx:=kO 161 [oP 0 0,oD cT] [.box 215 [.cX (.ai 8 .u32),.rw 1 .u8,.cX cI],.row 5 .u8] [mK (.mj []) [.now (.box 215 [.cX (.ai 8 .u32),.rw 2 .u8,.cX cI]),.gone,.now (.row 5 .u8)]] (s4 rp)
theorem Hf:SX HW:=fq Tryz.f161 [] {fn:=161} (.b .o (.b .o (.u (.lp (JO [] [.box 215 [.cX (.ai 8 .u32),.rw 1 .u8,.cX cI],.row 5 .u8] [(0,0),(1,1281)]) .o)))) (c1 FM<|bR)
def HV:cU Sx:=kO 91 [oP 0 0,oD (.sl cT)] [.box 215 [.cX (.ai 8 .u32),.rw 1 .u8,.cX cI],.row 5 .u8] [mK oI [.now (.box 215 [.cX (.ai 8 .u32),.rw 2 .u8,.cX cI]),.gone,.now (.row 5 .u8)]] (s4 rn)
theorem zF:SX HV:=fq Tryz.f91 [.tmp 4] {fn:=91} (.b .o (.b .o (.b .o (.b (.b .o (.j {JO [(0,oP 0 0)] [.box 215 [.cX (.ai 8 .u32),.rw 1 .u8,.cX cI],.row 5 .u8] [(0,0)]with gone:=[1],kill:=[8,10,11,12,13]} (.u (.lp {JO [(0,oP 0 0),(17,oI)] [.box 215 [.cX (.ai 8 .u32),.rw 1 .u8,.cX cI],.row 5 .u8] [(0,0)]with gone:=[1],kill:=[8,10,11,12,13]} .o)))) .o)))) (c1 Hf<|bR)
def zM:cU Sx:=kO 77 [oD cT] [] [mK (.one (.rw 0 .u8)) [.now (.row 5 .u8)]] fg
theorem sA:SX zM:=fq Tryz.f77 [.tmp 2] {pre:=[(2,0,.own 5 .u8)],fn:=77} .o (bR)
def Fh:cU Sx:=kO 162 [oP 0 0] [.box 215 [.cX (.ai 8 .u32),.rw 1 .u8,.cX cI],.row 5 .u8] [mK (.agg [.cX (.ai 8 .u32),.rw 2 .u8,.cX cI]) [.kept,.kept,.now (.row 5 .u8)]] (s3 sf)
theorem Ew:SX Fh:=fq Tryz.f162 [.cell 2 212] {fn:=162} .o (c1 sA<|bR)
def Fg:cU Sx:=kO 221 [oP 0 0,oD cT] [.box 212 [.cX (.ai 8 .u32),.rw 1 .u8,.cX cI],.row 5 .u8] [mK (.mj []) [.now (.box 212 [.cX (.ai 8 .u32),.rw 1 .u8,.cX cI]),.now (.row 5 .u8)]] (s4 AF)
theorem Ev:SX Fg:=fq Tryz.f221 [] {fn:=221} (.b .o (.b (.b .o (.j (JO [] [.box 296 [.cX (.ai 16 .u32)]] [(0,257)]) (.u (.lp (JO [(21,oI)] [.box 296 [.cX (.ai 16 .u32)]] [(0,257)]) .o)))) (.b .o (.b (.b .o (.j {JO [] [.box 210 [.cX (.ai 8 .u32)]] [(0,897)]with kill:=[4]} (.u (.lp (JO [(65,oI)] [.box 296 [.cX (.ai 16 .u32)],.box 210 [.cX (.ai 8 .u32)]] [(0,257),(1,897)]) (.b .o (.b .o (.b (.u (.b .o (.b (.b .o (.j (JO [] [.box 296 [.cX (.ai 16 .u32)]] [(0,257)]) .o)) .o))) .o))))))) (.b .o (.u (.lp (JO [(182,oI)] [.box 212 [.cX (.ai 8 .u32),.rw 1 .u8,.cX cI],.row 5 .u8] [(0,0),(1,1)]) .o))))))) (c1 Jq<|c1 sy<|bR)
def Gi:cU Sx:=kO 161 [oP 0 0,oD cT] [.box 212 [.cX (.ai 8 .u32),.rw 1 .u8,.cX cI],.row 5 .u8] [mK (.mj []) [.now (.box 212 [.cX (.ai 8 .u32),.rw 2 .u8,.cX cI]),.gone,.now (.row 5 .u8)]] (s4 xq)
theorem FN:SX Gi:=fq Tryz.f161 [] {fn:=161} (.b .o (.b .o (.u (.lp (JO [] [.box 212 [.cX (.ai 8 .u32),.rw 1 .u8,.cX cI],.row 5 .u8] [(0,0),(1,1281)]) .o)))) (c1 Ev<|bR)
def Fi:cU Sx:=kO 163 [oP 0 0] [.box 212 [.cX (.ai 8 .u32),.rw 1 .u8,.cX cI],.row 5 .u8] [mK (.agg [.cX (.a8 32)]) [.now (.box 212 [.cX (.ai 8 .u32),.rw 2 .u8,.cX cI]),.gone,.now (.row 5 .u8)]] (s3 mV)
theorem Ey:SX Fi:=fq Tryz.f163 [.cell 2 24] {fn:=163} (.b .o (.b .o (.b .o (.b (.b .o (.j {JO [(4,.one (.rw 0 .u8))] [.row 5 .u8] []with kill:=[22]} (.u (.lp {JO [(4,.one (.rw 0 .u8)),(5,oI)] [.row 5 .u8] []with kill:=[22]} .o)))) (.b .o (.b .o (.b (.b .o (.u (.lp (JO [(38,oI)] [.box 24 [.cX (.a8 32)]] [(0,1921)]) .o))) .o))))))) (c1 FN<|bR)
def K8:cU Sx:=kO 93 [oP 0 0] [.box 215 [.cX (.ai 8 .u32),.rw 1 .u8,.cX cI],.row 5 .u8] [mK (.agg [.cX (.a8 32)]) [.kept,.kept]] (s3 nY)
theorem BZ:SX K8:=fq Tryz.f93 [.cell 2 24] {fn:=93} .o (c1 Ew<|c1 Ey<|bR)
def XK:cU Sx:=kK 58 [oD (.sl cT)] (.agg [.cX (.a8 32)]) IE
theorem Oe:SX XK:=fq Tryz.f58 [.cell 2 24] {fn:=58} .o (c1 Mr<|c1 zF<|c1 BZ<|bR)
def Jw:cU Sx:=kK 67 [oS 4] (oS 4) qz
theorem wi:SX Jw:=fq Tryz.f67 [.cell 2 72] {fn:=67} .o (c1 sA<|bR)
def OM:cU Sx:=kK 83 [oS 6,oD (.sl (.st 4))] (oS 6) (s2 vS)
theorem zW:SX OM:=fq Tryz.f83 [.cell 4 27] {fn:=83} (.b .o (.b .o (.b (.b .o (.u (.lp {JO [(10,oI)] [.box 27 [.cX cI,.cX cI,.cX (.a8 32),.cX (.a8 32),.rw 2 (.st 4)],.box 27 [.cX cI,.cX cI,.cX (.a8 32),.cX (.a8 32),.rw 3 (.st 4)],.row 72 (.st 4),.row 72 (.st 4)] [(0,257),(1,321)]with pre:=[(2,5,.own 72 (.st 4)),(4,5,.own 72 (.st 4))]} .o))) .o))) (c1 wi<|bR)
def HU:cU Sx:=kK 82 [oD cT,oD cT,oD (.sl (.st 4))] (oS 6) (s3 vl)
theorem He:SX HU:=fq Tryz.f82 [.cell 6 27] {fn:=82} .o (c1 Oe<|c1 zW<|bR)
def K6:cU Sx:=kK 193 [oS 13] oB mn
theorem xu:SX K6:=fq Tryz.f193 [.tmp 2] {fn:=193} .o (bR)
def Jy:cU Sx:=kK 119 [oI] oB qA
theorem IJ:SX Jy:=fq Tryz.f119 [.tmp 2] {fn:=119} .o (c1 xu<|bR)
def OI:cU Sx:=kK 149 [oS 4] (oS 16) vQ
theorem EH:SX OI:=fq Tryz.f149 [.cell 2 200] {fn:=149} (.b .o (.b .o (.b (.b .o (.j (JI 3) .o)) .o))) (bR)
def Jv:cU Sx:=kK 194 [oS 4] oI wx
theorem IH:SX Jv:=fq Tryz.f194 [.tmp 2] {fn:=194} (.b .o (.b (.b (.j (JB 12) .o) .o) (.b .o (.b .o (.b .o (.b (.b .o (.j (JB 4) .o)) .o)))))) (c1 EH<|c1 xu<|bR)
def Hy:cU Sx:=kK 74 [oS 4] (.mj [oS 13,oB]) ew
theorem qT:SX Hy:=fq Tryz.f74 [.cell 2 92,.tmp 3] {fn:=74} .o (bR)
def OP:cU Sx:=kK 78 [oS 13] oI fV
theorem tg:SX OP:=fq Tryz.f78 [.tmp 2] {fn:=78} .o (bR)
def Hz:cU Sx:=kK 76 [oS 4] (oS 13) gQ
theorem n4:SX Hz:=fq Tryz.f76 [.cell 2 92] {fn:=76} .o (c1 EH<|bR)
def KY:cU Sx:=kK 120 [oS 6,oS 4] oI (s2 xM)
theorem JR:SX KY:=fq Tryz.f120 [.tmp 4] {fn:=120} (.b .o (.b .o (.b (.b .o (.b (.j (JB 25) .o) .o)) .o))) (c1 IH<|c1 qT<|c1 tg<|c1 n4<|bR)
def Ju:cU Sx:=kK 146 [oI] oB iP
theorem AH:SX Ju:=fq Tryz.f146 [.tmp 2] {fn:=146} .o (bR)
def FV:cU Sx:=kK 73 [oI,oI] oI (s2 lL)
theorem tZ:SX FV:=fq Tryz.f73 [.tmp 4] {fn:=73} .o (c1 AH<|bR)
def HB:cU Sx:=kO 219 [oI,oI,oP 0 0] [.box 25 [.cX (.sl (.st 4))]] [mK oI [.kept]] (s3 ng)
theorem zB:SX HB:=fq Tryz.f219 [.tmp 5] {fn:=219} .o (c1 tZ<|bR)
def mN:cU Sx:={f:=279,ins:=[oA 0,oI,oI,.one (.fn 219 [] [.ptr 1 0])],eW:=[.arr 3 cI true,.box 25 [.cX (.sl (.st 4))]],ls:=[(.sl cI),cI,cI,(.sl (.st 4))],pm:=[2,0,1,3],bk:=[1,2,0,3],outs:=[mK (.mj []) [.now (.arr 3 cI true),.kept]],pJ:=fun x=>cR x.1 x.2.1 x.2.2.1 x.2.2.2}
theorem mG:SX mN:=fq Tryz.f279 [] {lW:=[56],fn:=279} (.b .o (.u (.lp (JO [(8,oI)] [.arr 3 cI true] [(0,0)]) (.b .o (.b (.u (.b .o (.u (.lp (JO [(9,oI)] [.arr 3 cI true] [(0,0)]) (.b (.b (.j (JB 34) .o) .o) .o))))) .o))))) (c1 zB<|bR)
def nK:cU Sx:={f:=293,ins:=[oA 0,oI,oI,oI,.one (.fn 219 [] [.ptr 1 0])],eW:=[.arr 3 cI true,.box 25 [.cX (.sl (.st 4))]],ls:=[(.sl cI),cI,cI,cI,(.sl (.st 4))],pm:=[3,0,1,2,4],bk:=[1,2,3,0,4],outs:=[mK (.mj []) [.now (.arr 3 cI true),.kept]],pJ:=fun x=>cC x.1 x.2.1 x.2.2.1 x.2.2.2.1 x.2.2.2.2}
theorem nJ:SX nK:=fq Tryz.f293 [] {lW:=[56],fn:=293} (.b .o (.u (.lp (JO [(10,oI)] [.arr 3 cI true] [(0,0)]) .o))) (bR)
def oO:cU Sx:={f:=288,ins:=[oA 0,oI,oI,oI,.one (.fn 219 [] [.ptr 1 0])],eW:=[.arr 3 cI true,.box 25 [.cX (.sl (.st 4))]],ls:=[(.sl cI),cI,cI,cI,(.sl (.st 4))],pm:=[3,0,1,2,4],bk:=[1,2,3,0,4],outs:=[mK (.mj []) [.now (.arr 3 cI true),.kept]],pJ:=fun x=>dm x.1 x.2.1 x.2.2.1 x.2.2.2.1 x.2.2.2.2}
theorem ou:SX oO:=fq Tryz.f288 [] {fn:=288} (.b .o (.b .o (.b (.j (JO [(10,oI)] [.arr 3 cI true] [(0,0)]) (.u (.lp (JO [(10,oI),(11,oI)] [.arr 3 cI true] [(0,0)]) .o))) .o))) (c1 nJ<|bR)
def gH(g:((List Int)×Int×Int×Int×(List bN))->Option (List Int)):cU Sx:={f:=280,ins:=[oA 0,oI,oI,oI,.one (.fn 219 [] [.ptr 1 0])],eW:=[.arr 3 cI true,.box 25 [.cX (.sl (.st 4))]],ls:=[(.sl cI),cI,cI,cI,(.sl (.st 4))],pm:=[3,0,1,2,4],bk:=[1,2,3,0,4],outs:=[{out:=.mj [],lB:=[.now (.arr 3 cI true),.kept],Bl:=[(.sl cI)]}],pJ:=g}
def n7:cU Sx:={f:=280,ins:=[oA 0,oI,oI,oI,.one (.fn 219 [] [.ptr 1 0])],eW:=[.arr 3 cI true,.box 25 [.cX (.sl (.st 4))]],ls:=[(.sl cI),cI,cI,cI,(.sl (.st 4))],pm:=[3,0,1,2,4],bk:=[1,2,3,0,4],outs:=[mK (.mj []) [.now (.arr 3 cI true),.kept]],pJ:=fun x=>da x.1 x.2.1 x.2.2.1 x.2.2.2.1 x.2.2.2.2}
theorem n6:SX n7:=Dv (c:=gH fun _=>none) (F:=cZ) fun g hg=>fq (c:=gH (cZ g)) Tryz.f280 [] {lW:=[56],fn:=280} (.b (.b .o (.j {early:=true} (.b (.b .o (.b .o (.b (.j (JI 10) (.u (.lp (J [(10,oI),(11,oI)]) .o))) (.b (.b .o (.u (.lp (JO [(13,oI)] [.arr 3 cI true] [(0,0)]) .o))) .o)))) .o))) (.b (.b .o (.j {early:=true} (.b (.b .o (.b .o (.b (.j (JI 14) (.u (.lp (J [(14,oI),(15,oI)]) .o))) (.b (.b .o (.u (.lp (JO [(17,oI)] [.arr 3 cI true] [(0,0)]) .o))) .o)))) .o))) (.b .o (.b .o (.b .o (.b (.b .o (.j (J [(20,oI),(21,oI)]) .o)) (.b .o (.b (.j (JI 20) (.u (.lp (J [(20,oI),(21,oI)]) .o))) (.b .o (.b (.b (.j (JB 185) .o) (.j (JO [] [.arr 3 cI true] [(0,0)]) .o)) (.b (.b (.j (JB 199) .o) (.j (JO [] [.arr 3 cI true] [(0,0)]) .o)) (.b (.j (JB 213) .o) .o)))))))))))) (c1 hg<|c1 zB<|c1 ou<|bR)
def oQ:cU Sx:={f:=251,ins:=[oA 0,oI,.one (.fn 219 [] [.ptr 1 0])],eW:=[.arr 3 cI true,.box 25 [.cX (.sl (.st 4))]],ls:=[(.sl cI),cI,(.sl (.st 4))],pm:=[1,0,2],bk:=[1,0,2],outs:=[mK (.mj []) [.now (.arr 3 cI true),.kept]],pJ:=fun x=>fh x.1 x.2.1 x.2.2}
theorem ox:SX oQ:=fq Tryz.f251 [] {fn:=251} (.b .o (.b .o (.b (.j (JO [(7,oI)] [.arr 3 cI true] [(0,0)]) (.u (.lp (JO [(7,oI),(8,oI)] [.arr 3 cI true] [(0,0)]) .o))) (.b .o (.u (.lp (JO [(6,oI)] [.arr 3 cI true] [(0,0)]) (.b .o (.u (.b .o (.b (.j (JO [(7,oI)] [.arr 3 cI true] [(0,0)]) (.u (.lp (JO [(7,oI),(8,oI)] [.arr 3 cI true] [(0,0)]) .o))) .o)))))))))) (c1 mG<|c1 n6<|bR)
def nC:cU Sx:=kO 218 [oA 0,.one (.fn 219 [] [.ptr 1 0])] [.arr 3 cI true,.box 25 [.cX (.sl (.st 4))]] [mK (.mj []) [.now (.arr 3 cI true),.kept]] (s2 dw)
theorem ny:SX nC:=fq Tryz.f218 [] {fn:=218} .o (c1 ox<|bR)
def KZ:cU Sx:=kO 160 [oD (.sl (.st 4))] [] [mK (.one (.fn 220 [] [.ptr 0 0,.ptr 1 0])) [.now (.box 56 [.aw 2]),.now (.box 25 [.cX (.sl (.st 4))]),.now (.arr 3 cI true)]] pW
theorem BV:SX KZ:=fq Tryz.f160 [.tmp 2] {lW:=[56],fn:=160} (.b .o (.b .o (.b (.b .o (.j (JO [] [.arr 3 cI true] [(0,513)]) (.u (.lp (JO [(10,oI)] [.arr 3 cI true] [(0,513)]) .o)))) .o))) (c1 ny<|bR)
def HC:cU Sx:=kO (E.Z3 121003) [.one (.yl 0),oI,oS 13] [.loop 121003 .ready [(2,oP 1 0),(3,oP 2 0),(4,oP 3 0),(5,oP 4 0)],.box 3 [.cX cI],.box 4 [.cX .bo],.box 3 [.cX cI],.box 3 [.cX cI]] [mK (.one (.tt false)) [.now (.loop 121003 (.done .ret) [(2,oP 1 0),(3,oP 2 0),(4,oP 3 0),(5,oP 4 0)]),.now (.box 3 [.cX cI]),.now (.box 4 [.cX .bo]),.kept,.kept],mK (.one (.tt true)) [.now (.loop 121003 .ready [(2,oP 1 0),(3,oP 2 0),(4,oP 3 0),(5,oP 4 0)]),.kept,.kept,.now (.box 3 [.cX cI]),.now (.box 3 [.cX cI])]] (fun x=>yw x.1 x.2.1 x.2.2.1 x.2.2.2.1 x.2.2.2.2.1 x.2.2.2.2.2)
theorem G6:SX HC:=yq 121003 31 [10,11] {fn:=121,rd:=true} (.b .o (.u (.b .o (.b (.b (.j (JB 23) .o) (.j (JO [] [.box 3 [.cX cI]] [(0,4)]) .o)) .o)))) (c1 tg<|bR)
def xe:cU Sx:={f:=220,ins:=[.one (.yl 0),oP 1 0,oP 2 0],eW:=[.loop 121003 .ready [(2,oP 3 0),(3,oP 4 0),(4,oP 5 0),(5,oP 6 0)],.box 56 [.aw 7],.box 25 [.cX (.sl (.st 4))],.box 3 [.cX cI],.box 4 [.cX .bo],.box 3 [.cX cI],.box 3 [.cX cI],.arr 3 cI true],ls:=[(.sl cI),(.sl (.st 4)),cI,.bo,cI,cI],pm:=[5,0,1,2,3,4],bk:=[1,2,3,4,5,0],outs:=[mK (.mj []) [.now (.loop 121003 (.done .ret) [(2,oP 3 0),(3,oP 4 0),(4,oP 5 0),(5,oP 6 0)]),.kept,.kept,.now (.box 3 [.cX cI]),.now (.box 4 [.cX .bo]),.now (.box 3 [.cX cI]),.now (.box 3 [.cX cI]),.kept],mK (.mj []) [.now (.loop 121003 .ready [(2,oP 3 0),(3,oP 4 0),(4,oP 5 0),(5,oP 6 0)]),.kept,.kept,.now (.box 3 [.cX cI]),.now (.box 4 [.cX .bo]),.now (.box 3 [.cX cI]),.now (.box 3 [.cX cI]),.kept]],pJ:=fun x=>nh x.1 x.2.1 x.2.2.1 x.2.2.2.1 x.2.2.2.2.1 x.2.2.2.2.2}
theorem wT:SX xe:=fq Tryz.f220 [] {fn:=220} (.b .o (.u (.lp (JO [(8,oI)] [.loop 121003 .ready [(2,oP 1 0),(3,oP 2 0),(4,oP 3 0),(5,oP 4 0)],.box 3 [.cX cI],.box 4 [.cX .bo],.box 3 [.cX cI],.box 3 [.cX cI]] [(0,0),(1,3),(2,4),(3,5),(4,6)]) .o))) (c1 n4<|c1 G6<|bR)
def ML:cU Sx:=kK 121 [oD (.sl (.st 4))] (.mj [oI,oB]) wN
theorem Mp:SX ML:=fq Tryz.f121 [.cell 2 3,.cell 3 4] {fn:=121} .o (c1 BV<|c1 wT<|bR)
def HF:cU Sx:=kK 201 [oI,oI,oI] (.mj [oS 13,oB]) (s3 rf)
theorem G8:SX HF:=fq Tryz.f201 [.cell 6 92,.tmp 7] {fn:=201} .o (bR)
def HE:cU Sx:=kK 138 [oS 13,oS 13] (.mj [oS 13,oB]) (s2 gS)
theorem zC:SX HE:=fq Tryz.f138 [.cell 4 92,.tmp 5] {fn:=138} .o (c1 tg<|c1 G8<|bR)
def Jz:cU Sx:=kK 122 [oD (.sl (.st 4))] oI wy
theorem IK:SX Jz:=fq Tryz.f122 [.tmp 2] {fn:=122} (.b .o (.b (.b .o (.u (.lp (JI 10) (.b .o (.b .o (.b (.u (.b .o (.b .o (.u (.lp (JI 17) .o))))) .o)))))) .o)) (c1 n4<|c1 zC<|bR)
def MI:cU Sx:=kK 55 [oS 6] (oS 8) uj
theorem C5:SX MI:=fq Tryz.f55 [.cell 2 30] {fn:=55} (.b .o (.b (.b (.j (JB 17) .o) .o) (.b (.b .o (.j {early:=true} (.u (.lp (JI 22) .o)))) .o))) (c1 IJ<|c1 JR<|c1 Mp<|c1 IK<|bR)
def Jx:cU Sx:=kO (E.Z3 90003) [.one (.yl 0),oI,oS 13] [.loop 90003 .ready [(1,oP 1 0),(3,oP 2 0)],.box 27 [.cX (.st 6)],.box 25 [.rw 3 (.st 4)],.row 72 (.st 4)] [mK (.one (.tt true)) [.now (.loop 90003 .ready [(1,oP 1 0),(3,oP 2 0)]),.kept,.now (.box 25 [.rw 4 (.st 4)]),.gone,.now (.row 72 (.st 4))]] (s4 zQ)
theorem II:SX Jx:=yq 90003 21 [8,9] {fn:=90,rd:=true} (.b .o .o) (bR)
def xI:cU Sx:={f:=220,ins:=[.one (.yl 0),oP 1 0,oP 2 0],eW:=[.loop 90003 .ready [(1,oP 3 0),(3,oP 4 0)],.box 56 [.aw 5],.box 25 [.cX (.sl (.st 4))],.box 27 [.cX (.st 6)],.box 25 [.rw 6 (.st 4)],.arr 3 cI true,.row 72 (.st 4)],ls:=[(.sl cI),(.sl (.st 4)),(.st 6),(.sl (.st 4))],pm:=[3,0,1,2],bk:=[1,2,3,0],outs:=[mK (.mj []) [.now (.loop 90003 .ready [(1,oP 3 0),(3,oP 4 0)]),.kept,.kept,.now (.box 27 [.cX (.st 6)]),.now (.box 25 [.rw 7 (.st 4)]),.kept,.gone,.now (.row 72 (.st 4))]],pJ:=fun x=>jA x.1 x.2.1 x.2.2.1 x.2.2.2}
theorem xt:SX xI:=fq Tryz.f220 [] {fn:=220} (.b .o (.u (.lp {JO [(8,oI)] [.loop 90003 .ready [(1,oP 1 0),(3,oP 2 0)],.box 27 [.cX (.st 6)],.box 25 [.rw 3 (.st 4)],.row 72 (.st 4)] [(0,0),(1,3),(2,4)]with gone:=[6]} .o))) (c1 n4<|c1 II<|bR)
def OL:cU Sx:=kK 90 [oS 6] (oS 6) yu
theorem M3:SX OL:=fq Tryz.f90 [.cell 2 27] {fn:=90} (.b .o (.b .o (.b (.b .o (.u (.z [(3,1,.own 72 (.st 4))] .o))) .o))) (c1 BV<|c1 xt<|c1 zW<|bR)
def JJ:cU Sx:=kK 92 [oD cT,oS 4] (oD cT) (s2 sZ)
theorem AN:SX JJ:=fq Tryz.f92 [.tmp 4] {fn:=92} .o (c1 qT<|bR)
def K7:cU Sx:=kK 39 [oD cT,oS 6] (oS 8) (s2 mw)
theorem BX:SX K7:=fq Tryz.f39 [.cell 4 30] {fn:=39} (.b .o (.b .o (.b .o (.b .o (.b (.b .o (.j {JO [(6,oP 0 0)] [.box 215 [.cX (.ai 8 .u32),.rw 1 .u8,.cX cI],.row 5 .u8] [(0,1665)]with kill:=[32]} (.u (.lp {JO [(6,oP 0 0),(37,oI)] [.box 215 [.cX (.ai 8 .u32),.rw 1 .u8,.cX cI],.row 5 .u8] [(0,1665)]with kill:=[32]} .o)))) .o))))) (c1 C5<|c1 Oe<|c1 Mr<|c1 M3<|c1 AN<|c1 zF<|c1 BZ<|bR)
def MM:cU Sx:=kO 181 [oI] [] [mK (oP 0 0) [.now (.box 243 [.cX cI,.oL 1,.oL 2,.oL 3]),.now (.map 240 (.st 11) .bo),.now (.fo 241 3 cI cI),.now (.fo 241 3 cI cI)]] uk
theorem C8:SX MM:=fq Tryz.f181 [.tmp 2] {fn:=181} (.b .o (.b (.b (.j (JB 8) .o) .o) .o)) (bR)
def Gf:cU Sx:=kK 177 [oD (.int .u64)] oI BR
theorem FL:SX Gf:=fq Tryz.f177 [.tmp 2] {fn:=177} (.b .o (.b (.b .o (.j (J [(0,oD (.int .u64)),(2,oI)]) .o)) (.b (.b .o (.j (J [(0,oD (.int .u64)),(2,oI)]) .o)) (.b (.b .o (.j (J [(0,oD (.int .u64)),(2,oI)]) .o)) .o)))) (bR)
def JH:cU Sx:=kK 100 [oD (.int .u64)] oI mJ
theorem ss:SX JH:=fq Tryz.f100 [.tmp 2] {fn:=100} .o (c1 FL<|bR)
def MN:cU Sx:=kK 199 [oS 19,oS 19] oI (s2 eK)
theorem nw:SX MN:=fq Tryz.f199 [.tmp 4] {fn:=199} .o (c1 tZ<|bR)
def kP:cU Sx:={f:=256,ins:=[oA 0,oI,oI,.one (.fn 199 [] [])],eW:=[.arr 255 (.st 19) true],ls:=[(.sl (.st 19)),cI,cI],pm:=[2,0,1],bk:=[1,2,0],outs:=[mK (.mj []) [.now (.arr 255 (.st 19) true)]],pJ:=fun x=>fz x.1 x.2.1 x.2.2}
theorem kH:SX kP:=fq Tryz.f256 [] {lW:=[251],fn:=256} (.b .o (.u (.lp (JO [(8,oI)] [.arr 255 (.st 19) true] [(0,0)]) (.b .o (.b (.u (.b .o (.u (.lp (JO [(9,oI)] [.arr 255 (.st 19) true] [(0,0)]) (.b (.b (.j (JB 34) .o) .o) .o))))) .o))))) (c1 nw<|bR)
def mP:cU Sx:={f:=281,ins:=[oA 0,oI,oI,oI,.one (.fn 199 [] [])],eW:=[.arr 255 (.st 19) true],ls:=[(.sl (.st 19)),cI,cI,cI],pm:=[3,0,1,2],bk:=[1,2,3,0],outs:=[mK (.mj []) [.now (.arr 255 (.st 19) true)]],pJ:=fun x=>ek x.1 x.2.1 x.2.2.1 x.2.2.2}
theorem mH:SX mP:=fq Tryz.f281 [] {lW:=[251],fn:=281} (.b .o (.u (.lp (JO [(10,oI)] [.arr 255 (.st 19) true] [(0,0)]) (.u (.b .o (.b .o (.b (.b (.j (JB 40) .o) (.j (JI 11) .o)) .o))))))) (c1 nw<|bR)
def mM:cU Sx:={f:=257,ins:=[oA 0,oI,oI,.one (.fn 199 [] [])],eW:=[.arr 255 (.st 19) true],ls:=[(.sl (.st 19)),cI,cI],pm:=[2,0,1],bk:=[1,2,0],outs:=[mK (.mj []) [.now (.arr 255 (.st 19) true)]],pJ:=fun x=>gi x.1 x.2.1 x.2.2}
theorem mF:SX mM:=fq Tryz.f257 [] {lW:=[251],fn:=257} (.b .o (.b .o (.b .o (.b (.b .o (.j (JO [] [.arr 255 (.st 19) true] [(0,0)]) (.u (.lp (JO [(11,oI)] [.arr 255 (.st 19) true] [(0,0)]) .o)))) (.b .o (.u (.lp (JO [(12,oI)] [.arr 255 (.st 19) true] [(0,0)]) .o))))))) (c1 mH<|bR)
def Ad:cU Sx:=kK 224 [oI] (oD (.int .u64)) fG
theorem oe:SX Ad:=fq Tryz.f224 [.tmp 2] {fn:=224} .o (c1 ss<|bR)
def A4:cU Sx:=kO 225 [oP 0 0] [.box 277 [.cX (.int .u64)]] [mK (oD (.int .u64)) [.now (.box 277 [.cX (.int .u64)])]] hZ
theorem pI:SX A4:=fq Tryz.f225 [.tmp 2] {fn:=225} .o (bR)
def kL:cU Sx:={f:=258,ins:=[oA 0,oI,oI,.one (.fn 199 [] [])],eW:=[.arr 255 (.st 19) true],ls:=[(.sl (.st 19)),cI,cI],pm:=[2,0,1],bk:=[1,2,0],outs:=[mK (.mj []) [.now (.arr 255 (.st 19) true)]],pJ:=fun x=>fy x.1 x.2.1 x.2.2}
theorem kG:SX kL:=fq Tryz.f258 [] {lW:=[251],fn:=258} (.b .o (.b .o (.b (.b .o (.b .o (.b .o (.u (.lp (JO [(11,oI)] [.arr 255 (.st 19) true,.box 277 [.cX (.int .u64)]] [(0,0),(1,769)]) (.b .o (.b (.u (.b .o (.b (.b .o (.j (JI 12) .o)) .o))) .o))))))) .o))) (c1 oe<|c1 pI<|bR)
def nF:cU Sx:={f:=289,ins:=[oA 0,oI,oI,oP 1 0,.one (.fn 199 [] [])],eW:=[.arr 255 (.st 19) true,.box 3 [.cX cI]],ls:=[(.sl (.st 19)),cI,cI,cI],pm:=[2,0,1,3],bk:=[1,2,0,3],outs:=[mK (.mj [oI,oI]) [.kept,.now (.box 3 [.cX cI])]],pJ:=fun x=>dx x.1 x.2.1 x.2.2.1 x.2.2.2}
theorem nz:SX nF:=fq Tryz.f289 [.tmp 10,.tmp 11] {fn:=289} .o (c1 nw<|bR)
def nD:cU Sx:={f:=283,ins:=[oA 0,oI,oI,oI,oP 1 0,.one (.fn 199 [] [])],eW:=[.arr 255 (.st 19) true,.box 3 [.cX cI]],ls:=[(.sl (.st 19)),cI,cI,cI,cI],pm:=[3,0,1,2,4],bk:=[1,2,3,0,4],outs:=[mK oI [.kept,.now (.box 3 [.cX cI])]],pJ:=fun x=>ez x.1 x.2.1 x.2.2.1 x.2.2.2.1 x.2.2.2.2}
theorem gb:SX nD:=fq Tryz.f283 [.tmp 12] {fn:=283} .o (c1 nz<|bR)
def ko:cU Sx:={f:=282,ins:=[oA 0,oI,oP 1 0,.one (.fn 199 [] [])],eW:=[.arr 255 (.st 19) true,.box 3 [.cX cI]],ls:=[(.sl (.st 19)),cI,cI],pm:=[1,0,2],bk:=[1,0,2],outs:=[mK oI [.kept,.now (.box 3 [.cX cI])]],pJ:=fun x=>cY x.1 x.2.1 x.2.2}
theorem ke:SX ko:=fq Tryz.f282 [.tmp 8] {fn:=282} .o (c1 gb<|bR)
def lK:cU Sx:={f:=259,ins:=[oA 0,oI,oI,.one (.fn 199 [] [])],eW:=[.arr 255 (.st 19) true],ls:=[(.sl (.st 19)),cI,cI],pm:=[2,0,1],bk:=[1,2,0],outs:=[mK (.mj [oI,oI]) [.kept]],pJ:=fun x=>fM x.1 x.2.1 x.2.2}
theorem lF:SX lK:=fq Tryz.f259 [.tmp 8,.tmp 9] {fn:=259} (.b .o (.b .o (.b .o (.b .o (.b .o (.b .o (.b (.b .o (.j (JO [(13,oI)] [.box 3 [.cX cI]] [(0,641)]) (.b (.b (.b .o (.j (JO [(12,oI),(13,oI),(14,oI)] [.box 3 [.cX cI]] [(0,641)]) .o)) .o) .o))) .o))))))) (c1 ke<|c1 gb<|bR)
def lA:cU Sx:={f:=260,ins:=[oA 0,oI,oI,.one (.fn 199 [] [])],eW:=[.arr 255 (.st 19) true],ls:=[(.sl (.st 19)),cI,cI],pm:=[2,0,1],bk:=[1,2,0],outs:=[mK (.mj []) [.now (.arr 255 (.st 19) true)]],pJ:=fun x=>fC x.1 x.2.1 x.2.2}
theorem lu:SX lA:=fq Tryz.f260 [] {lW:=[251],fn:=260} (.b .o (.b .o (.u (.lp (JO [(8,oI),(9,oI)] [.arr 255 (.st 19) true] [(0,0)]) .o)))) (bR)
def iH:cU Sx:={f:=261,ins:=[oA 0,oI,oI,.one (.fn 199 [] [])],eW:=[.arr 255 (.st 19) true],ls:=[(.sl (.st 19)),cI,cI],pm:=[2,0,1],bk:=[1,2,0],outs:=[mK oB [.now (.arr 255 (.st 19) true)]],pJ:=fun x=>eC x.1 x.2.1 x.2.2}
theorem iB:SX iH:=fq Tryz.f261 [.tmp 8] {lW:=[251],fn:=261} (.b .o (.b .o (.b (.b .o (.u (.lp (JO [(9,oI),(10,oI)] [.arr 255 (.st 19) true] [(0,0)]) (.b .o (.b (.u (.b (.j (JI 9) (.u (.lp (JI 9) (.b (.b (.j (JB 36) .o) .o) .o)))) (.b .o (.b .o (.b .o (.b (.b .o (.j (JO [] [.arr 255 (.st 19) true] [(0,0)]) (.b (.b .o (.u (.lp (JO [(11,oI)] [.arr 255 (.st 19) true] [(0,0)]) .o))) .o))) (.b .o (.b (.b .o (.u (.lp (JO [(12,oI)] [.arr 255 (.st 19) true] [(0,0)]) .o))) .o)))))))) .o))))) .o))) (c1 nw<|bR)
def kq:cU Sx:={f:=262,ins:=[oA 0,oI,oI,oI,.one (.fn 199 [] [])],eW:=[.arr 255 (.st 19) true],ls:=[(.sl (.st 19)),cI,cI,cI],pm:=[3,0,1,2],bk:=[1,2,3,0],outs:=[mK oI [.now (.arr 255 (.st 19) true)]],pJ:=fun x=>fk x.1 x.2.1 x.2.2.1 x.2.2.2}
theorem kf:SX kq:=fq Tryz.f262 [.tmp 10] {lW:=[251],fn:=262} (.b .o (.b .o (.b .o (.b (.u (.lp (JO [(11,oI),(12,oI)] [.arr 255 (.st 19) true] [(0,0)]) (.u (.b (.j (JI 11) (.u (.lp (JI 11) (.b (.b (.j (JB 47) .o) .o) .o)))) (.b (.j (JI 12) (.u (.lp (JI 12) (.b (.b (.j (JB 65) .o) .o) .o)))) .o))))) .o)))) (c1 nw<|bR)
def ml:cU Sx:={f:=263,ins:=[oA 0,oI,oI,oI,.one (.fn 199 [] [])],eW:=[.arr 255 (.st 19) true],ls:=[(.sl (.st 19)),cI,cI,cI],pm:=[3,0,1,2],bk:=[1,2,3,0],outs:=[mK (.mj [oI,oB]) [.now (.arr 255 (.st 19) true)]],pJ:=fun x=>fY x.1 x.2.1 x.2.2.1 x.2.2.2}
theorem mi:SX ml:=fq Tryz.f263 [.tmp 10,.tmp 11] {lW:=[251],fn:=263} (.b .o (.b .o (.b .o (.b (.j (JI 12) (.u (.lp (JI 12) (.b (.b (.j (JB 47) .o) .o) .o)))) (.b (.j (JI 13) (.u (.lp (JI 13) (.b (.b (.j (JB 66) .o) .o) .o)))) (.b .o (.b .o (.b .o (.b .o (.b (.j (JO [(13,oI)] [.arr 255 (.st 19) true] [(0,0)]) (.u (.lp (JO [(12,oI),(13,oI)] [.arr 255 (.st 19) true] [(0,0)]) (.u (.b (.j (JI 12) (.u (.lp (JI 12) (.b (.b (.j (JB 120) .o) .o) .o)))) (.b (.j (JI 13) (.u (.lp (JI 13) (.b (.b (.j (JB 139) .o) .o) .o)))) .o)))))) .o)))))))))) (c1 nw<|bR)
def fQ(g:((List bQ)×Int×Int×Int)->Option (List bQ)):cU Sx:={f:=236,ins:=[oA 0,oI,oI,oI,.one (.fn 199 [] [])],eW:=[.arr 255 (.st 19) true],ls:=[(.sl (.st 19)),cI,cI,cI],pm:=[3,0,1,2],bk:=[1,2,3,0],outs:=[{out:=.mj [],lB:=[.now (.arr 255 (.st 19) true)],Bl:=[(.sl (.st 19))]}],pJ:=g}
def nc:cU Sx:={f:=236,ins:=[oA 0,oI,oI,oI,.one (.fn 199 [] [])],eW:=[.arr 255 (.st 19) true],ls:=[(.sl (.st 19)),cI,cI,cI],pm:=[3,0,1,2],bk:=[1,2,3,0],outs:=[mK (.mj []) [.now (.arr 255 (.st 19) true)]],pJ:=fun x=>gv x.1 x.2.1 x.2.2.1 x.2.2.2}
theorem mY:SX nc:=Dv (c:=fQ fun _=>none) (F:=dZ) fun g hg=>fq (c:=fQ (dZ g)) Tryz.f236 [] {fn:=236} (.b .o (.b .o (.u (.lp (JO [(1,oI),(2,oI),(3,oI),(10,oB),(11,oB)] [.arr 255 (.st 19) true] [(0,0)]) (.u (.b .o (.b .o (.b .o (.b (.b .o (.j (JO [(3,oI)] [.arr 255 (.st 19) true] [(0,0)]) .o)) (.b .o (.b (.b .o (.j (JO [(13,oI),(14,oI)] [.arr 255 (.st 19) true] [(0,0)]) .o)) (.b (.b (.j (JB 75) .o) (.j {JO [] [.arr 255 (.st 19) true] [(0,0)]with early:=true} .o)) (.b (.b (.j (JB 97) .o) .o) .o))))))))))))) (c1 hg<|c1 kH<|c1 mF<|c1 kG<|c1 lF<|c1 lu<|c1 iB<|c1 nw<|c1 kf<|c1 mi<|bR)
def jP:cU Sx:=kO 198 [oA 0,.one (.fn 199 [] [])] [.arr 255 (.st 19) true] [mK (.mj []) [.now (.arr 255 (.st 19) true)]] cW
theorem jM:SX jP:=fq Tryz.f198 [] {lW:=[251],fn:=198} .o (c1 ss<|c1 mY<|bR)
def Qs:cU Sx:=kO 136 [oD (.sl (.st 13))] [] [mO (.one (.mb)),mK (oP 0 0) [.now (.box 253 [.aw 1]),.now (.arr 255 (.st 19) true)]] Dx
theorem PT:SX Qs:=fq Tryz.f136 [.tmp 2] {lW:=[251],fn:=136} (.b .o (.b .o (.b (.b .o (.j {JO [] [.box 253 [.aw 1],.arr 255 (.st 19) true] [(0,385)]with early:=true} (.u (.lp {JO [(11,oI)] [.box 253 [.aw 1],.arr 255 (.st 19) true] [(0,385)]with pre:=[(3,1,.arr 255 (.st 19))]} (.b .o (.b .o (.b (.u (.b .o (.b (.b (.j (JB 23) .o) .o) .o))) .o))))))) (.b .o (.b (.b .o (.u (.lp (JI 47) (.b .o (.b .o (.b (.u (.b .o (.b (.j (JB 73) .o) .o))) .o)))))) .o))))) (c1 xu<|c1 jM<|c1 tg<|bR)
def ER:cU Sx:=kO 182 [oD (.sl (.st 4))] [] [mO (.one (.mb)),mK (oP 0 0) [.now (.box 253 [.aw 1]),.now (.arr 255 (.st 19) true)]] rP
theorem Ee:SX ER:=fq Tryz.f182 [.tmp 2] {fn:=182} (.b .o (.b .o (.b (.b .o (.j (JO [(3,.one (.rw 0 (.st 13)))] [.row 92 (.st 13)] []) (.u (.lp {JO [(3,.one (.rw 0 (.st 13))),(8,oI)] [.row 92 (.st 13)] []with pre:=[(3,0,.own 92 (.st 13))]} .o)))) .o))) (c1 n4<|c1 PT<|bR)
def xK:cU Sx:=kO 200 [.one (.mb),oS 13] [] [mK (.one (.fn 237 [] [.ptr 0 0,.ptr 1 0])) [.now (.box 187 [.mb]),.now (.box 92 [.cX (.st 13)])]] sx
theorem xw:SX xK:=fq Tryz.f200 [.tmp 4] {fn:=200} .o (bR)
def A0:cU Sx:=kK 239 [.one (.mb)] oI (fun _=>ri)
theorem uw:SX A0:=fq Tryz.f239 [.tmp 2] {fn:=239} .o (bR)
def uA:cU Sx:=kO 264 [oI,.one (.fn 265 [] [.ptr 0 0,.ptr 1 0])] [.box 187 [.mb],.box 3 [.cX cI]] [mK oI [.kept,.kept]] (s2 oq)
theorem uc:SX uA:=fq Tryz.f264 [.tmp 4] {fn:=264} (.b .o (.b .o (.b (.u (.lp (J [(5,oI),(6,oI)]) .o)) .o))) (bR)
def zJ:cU Sx:=kK 238 [.one (.mb),oI] oI uX
theorem zc:SX zJ:=fq Tryz.f238 [.tmp 4] {fn:=238} .o (c1 uw<|c1 uc<|bR)
def qi:cU Sx:=kO 237 [.one (.yl 0),oP 1 0,oP 2 0] [.loop 137003 .ready [(5,oP 3 0)],.box 187 [.mb],.box 92 [.cX (.st 13)],.box 56 [.rw 4 cI],.row 3 cI] [mK (.mj []) [.kept,.kept,.kept,.kept,.kept]] (s2 kj)
theorem qf:SX qi:=fq Tryz.f237 [] {fn:=237} (.b .o (.u (.lp (JI 4) .o))) (c1 zc<|c1 uw<|bR)
def Aa:cU Sx:=kO 137 [.one (.mb),oS 13] [] [mK (.one (.rw 0 cI)) [.now (.row 3 cI)]] vH
theorem zY:SX Aa:=fq Tryz.f137 [.tmp 4] {fn:=137} (.b .o (.b .o (.b (.b .o (.u (.z [(5,1,.own 3 cI)] .o))) .o))) (c1 xw<|c1 qf<|bR)
def DY:cU Sx:=kO 242 [oP 0 0] [.box 243 [.cX cI,.oL 1,.oL 2,.oL 3],.map 240 (.st 11) .bo,.fo 241 3 cI cI,.fo 241 3 cI cI] [mK oI [.kept,.kept,.kept,.kept]] (s4 gJ)
theorem rB:SX DY:=fq Tryz.f242 [.tmp 2] {fn:=242} .o (bR)
def AY:cU Sx:=kO 231 [oP 0 0,oI] [.box 243 [.cX cI,.oL 1,.oL 2,.oL 3],.map 240 (.st 11) .bo,.fo 241 3 cI cI,.fo 241 3 cI cI] [mK oB [.kept,.kept,.kept,.kept]] (fun x=>kU x.1 x.2.1 x.2.2.1 x.2.2.2.1 x.2.2.2.2)
theorem AJ:SX AY:=fq Tryz.f231 [.tmp 4] {fn:=231} .o (c1 rB<|bR)
def DX:cU Sx:=kO 183 [oP 0 0,oD (.sl (.st 11))] [.box 243 [.cX cI,.oL 1,.oL 2,.oL 3],.map 240 (.st 11) .bo,.fo 241 3 cI cI,.fo 241 3 cI cI] [mK oI [.kept,.now (.map 240 (.st 11) .bo),.now (.fo 241 3 cI cI),.now (.fo 241 3 cI cI)]] (fun x=>lG x.1 x.2.1 x.2.2.1 x.2.2.2.1 x.2.2.2.2)
theorem wU:SX DX:=fq Tryz.f183 [.tmp 4] {takes:=[241],fn:=183} (.b .o (.b .o (.b (.b .o (.u (.lp (JO [(5,oI),(10,oI)] [.map 240 (.st 11) .bo,.fo 241 3 cI cI,.fo 241 3 cI cI] [(0,1),(1,2),(2,3)]) (.b .o (.b .o (.b (.u (.b .o (.b (.b (.j (JB 40) .o) .o) .o))) .o)))))) .o))) (c1 AJ<|bR)
def A2:cU Sx:=kO 200 [oP 0 0,oS 13] [.box 253 [.aw 1],.arr 255 (.st 19) true] [mK (.one (.fn 237 [] [.ptr 2 0,.ptr 3 0])) [.kept,.kept,.now (.box 187 [.ptr 0 0]),.now (.box 92 [.cX (.st 13)])]] (s2 rk)
theorem AM:SX A2:=fq Tryz.f200 [.tmp 4] {fn:=200} .o (bR)
def Gd:cU Sx:=kO 239 [oP 0 0] [.box 253 [.aw 1],.arr 255 (.st 19) true] [mK oI [.kept,.kept]] qt
theorem yS:SX Gd:=fq Tryz.f239 [.tmp 2] {fn:=239} .o (bR)
def A1:cU Sx:={f:=265,ins:=[oI,oP 0 0,oP 1 0],eW:=[.box 187 [.ptr 2 0],.box 3 [.cX cI],.box 253 [.aw 3],.arr 255 (.st 19) true],ls:=[cI,(.sl (.st 19)),cI],pm:=[0,2,1],bk:=[0,2,1],outs:=[mK oB [.kept,.kept,.kept,.kept]],pJ:=fun x=>nV x.1 x.2.1 x.2.2}
theorem AL:SX A1:=fq Tryz.f265 [.tmp 4] {fn:=265} .o (c1 tg<|bR)
def tQ:cU Sx:={f:=264,ins:=[oI,.one (.fn 265 [] [.ptr 0 0,.ptr 1 0])],eW:=[.box 187 [.ptr 2 0],.box 3 [.cX cI],.box 253 [.aw 3],.arr 255 (.st 19) true],ls:=[cI,(.sl (.st 19)),cI],pm:=[0,2,1],bk:=[0,2,1],outs:=[mK oI [.kept,.kept,.kept,.kept]],pJ:=fun x=>jc x.1 x.2.1 x.2.2}
theorem tk:SX tQ:=fq Tryz.f264 [.tmp 4] {fn:=264} (.b .o (.b .o (.b (.u (.lp (J [(5,oI),(6,oI)]) .o)) .o))) (c1 AL<|bR)
def D9:cU Sx:=kO 238 [oP 0 0,oI] [.box 253 [.aw 1],.arr 255 (.st 19) true] [mK oI [.kept,.kept]] (s2 qN)
theorem De:SX D9:=fq Tryz.f238 [.tmp 4] {fn:=238} .o (c1 yS<|c1 tk<|bR)
def B5:cU Sx:=kO (E.Z3 137003) [.one (.yl 0),oI,oS 13] [.loop 137003 .ready [(5,oP 1 0)],.box 56 [.rw 2 cI],.row 3 cI] [mK (.one (.tt true)) [.now (.loop 137003 .ready [(5,oP 1 0)]),.now (.box 56 [.rw 3 cI]),.gone,.now (.row 3 cI)]] (s3 sJ)
theorem BM:SX B5:=yq 137003 17 [10,11] {fn:=137,rd:=true} (.b .o .o) (bR)
def pU:cU Sx:={f:=237,ins:=[.one (.yl 0),oP 1 0,oP 2 0],eW:=[.loop 137003 .ready [(5,oP 3 0)],.box 187 [.ptr 4 0],.box 92 [.cX (.st 13)],.box 56 [.rw 5 cI],.box 253 [.aw 6],.row 3 cI,.arr 255 (.st 19) true],ls:=[(.sl (.st 19)),(.st 13),(.sl cI)],pm:=[2,0,1],bk:=[1,2,0],outs:=[mK (.mj []) [.now (.loop 137003 .ready [(5,oP 3 0)]),.kept,.kept,.now (.box 56 [.rw 7 cI]),.kept,.gone,.kept,.now (.row 3 cI)]],pJ:=fun x=>fD x.1 x.2.1 x.2.2}
theorem pN:SX pU:=fq Tryz.f237 [] {fn:=237} (.b .o (.u (.lp {JO [(4,oI)] [.loop 137003 .ready [(5,oP 1 0)],.box 56 [.rw 2 cI],.row 3 cI] [(0,0),(1,3)]with gone:=[5]} (.b .o (.b (.u (.b .o (.b (.j {JO [(45,oB)] [.loop 137003 .ready [(5,oP 1 0)],.box 56 [.rw 2 cI],.row 3 cI] [(0,0),(1,3)]with gone:=[578]} .o) .o))) .o))))) (c1 De<|c1 yS<|c1 zC<|c1 BM<|bR)
def Fe:cU Sx:=kO 137 [oP 0 0,oS 13] [.box 253 [.aw 1],.arr 255 (.st 19) true] [mK (.one (.rw 2 cI)) [.kept,.kept,.now (.row 3 cI)]] (s2 pb)
theorem Eu:SX Fe:=fq Tryz.f137 [.tmp 4] {fn:=137} (.b .o (.b .o (.b (.b .o (.u (.z [(5,1,.own 3 cI)] .o))) .o))) (c1 AM<|c1 pN<|bR)
def HA:cU Sx:=kO 104 [oD (.sl (.st 4))] [] [mK (oP 0 0) [.now (.box 243 [.cX cI,.oL 1,.oL 2,.oL 3]),.now (.map 240 (.st 11) .bo),.now (.fo 241 3 cI cI),.now (.fo 241 3 cI cI)]] q8
theorem G5:SX HA:=fq Tryz.f104 [.tmp 2] {fn:=104} (.b .o (.b .o (.b .o (.b (.b .o (.u (.lp (JO [(18,oI)] [.map 240 (.st 11) .bo,.fo 241 3 cI cI,.fo 241 3 cI cI] [(0,450),(1,451),(2,452)]) (.b .o (.b .o (.b (.u (.b .o (.b .o (.b .o (.b (.b .o (.u (.lp (JO [(33,oI)] [.map 240 (.st 11) .bo,.fo 241 3 cI cI,.fo 241 3 cI cI] [(0,450),(1,451),(2,452)]) .o))) .o))))) .o)))))) .o)))) (c1 C8<|c1 Ee<|c1 qT<|c1 zY<|c1 wU<|c1 Eu<|bR)
def xd:cU Sx:=kO 141 [.agg [.cX (.sl (.st 4)),.ptr 0 0]] [.box 243 [.cX cI,.oL 1,.oL 2,.oL 3],.map 240 (.st 11) .bo,.fo 241 3 cI cI,.fo 241 3 cI cI] [mK (.one (.rw 4 cI)) [.kept,.kept,.kept,.kept,.now (.row 3 cI)]] (fun x=>fT x.1 x.2.1 x.2.2.1 x.2.2.2.1 x.2.2.2.2)
theorem pT:SX xd:=fq Tryz.f141 [.tmp 2] {fn:=141} (.b .o (.b .o (.b (.b .o (.u (.lp {JO [(3,.one (.rw 0 cI)),(9,oI)] [.row 3 cI] []with pre:=[(3,0,.own 3 cI)]} .o))) .o))) (bR)
def A3:cU Sx:=kK 204 [oD (.sl cI),oI] oI (s2 rq)
theorem AP:SX A3:=fq Tryz.f204 [.tmp 4] {fn:=204} (.b .o (.b (.b .o (.u (.lp (JI 8) .o))) .o)) (bR)
def za:cU Sx:=kK 142 [oD (.sl cI),oI] oB (s2 dN)
theorem ga:SX za:=fq Tryz.f142 [.tmp 4] {fn:=142} .o (c1 AP<|bR)
def Ab:cU Sx:=kO 185 [oD (.sl cI)] [] [mK (.one (.fn 233 [] [.ptr 0 0])) [.now (.box 56 [.cX (.sl cI)])]] jG
theorem th:SX Ab:=fq Tryz.f185 [.tmp 2] {fn:=185} .o (bR)
def wJ:cU Sx:=kO (E.Z3 255002) [.one (.yl 0),oI] [.loop 255002 .ready [(2,oP 1 0)],.box 56 [.aw 2],.arr 3 cI true] [mK (.one (.tt true)) [.now (.loop 255002 .ready [(2,oP 1 0)]),.now (.box 56 [.aw 3]),.gone,.now (.arr 3 cI true)]] (s2 fL)
theorem pE:SX wJ:=yq 255002 13 [7] {fn:=255,rd:=true} (.b .o .o) (bR)
def m9:cU Sx:=kO 233 [.one (.yl 0),oP 1 0] [.loop 255002 .ready [(2,oP 2 0)],.box 56 [.cX (.sl cI)],.box 56 [.aw 3],.arr 3 cI true] [mK (.mj []) [.now (.loop 255002 .ready [(2,oP 2 0)]),.kept,.now (.box 56 [.aw 4]),.gone,.now (.arr 3 cI true)]] (s2 eo)
theorem mX:SX m9:=fq Tryz.f233 [] {fn:=233} (.b .o (.u (.lp {JO [(7,oI)] [.loop 255002 .ready [(2,oP 1 0)],.box 56 [.aw 2],.arr 3 cI true] [(0,0),(1,2)]with gone:=[3]} .o))) (c1 pE<|bR)
def lx:cU Sx:=kO 255 [.one (.fP),.one (.fn 233 [] [.ptr 0 0])] [.box 56 [.cX (.sl cI)]] [mK (oA 1) [.kept,.now (.arr 3 cI true)]] dP
theorem ln:SX lx:=fq Tryz.f255 [.tmp 4] {lW:=[56],fn:=255} (.b .o (.b (.b .o (.u (.z [(2,1,.arr 3 cI)] .o))) .o)) (c1 mX<|bR)
def oM:cU Sx:=kO 232 [.one (.fn 233 [] [.ptr 0 0])] [.box 56 [.cX (.sl cI)]] [mK (oA 1) [.kept,.now (.arr 3 cI true)]] dS
theorem ot:SX oM:=fq Tryz.f232 [.tmp 2] {lW:=[56],fn:=232} .o (c1 ln<|bR)
def KW:cU Sx:=kK 173 [oI,oI] oB (s2 dE)
theorem jt:SX KW:=fq Tryz.f173 [.tmp 4] {fn:=173} .o (c1 AH<|bR)
def sD:cU Sx:={f:=167,ins:=[oA 0,oI,oI],eW:=[.arr 3 cI true],ls:=[(.sl cI),cI,cI],pm:=[2,0,1],bk:=[1,2,0],outs:=[mK (.mj []) [.now (.arr 3 cI true)]],pJ:=fun x=>nu x.1 x.2.1 x.2.2}
theorem sv:SX sD:=fq Tryz.f167 [] {lW:=[56],fn:=167} (.b .o (.u (.lp (JO [(6,oI)] [.arr 3 cI true] [(0,0)]) (.b .o (.b (.u (.b .o (.u (.lp (JO [(7,oI)] [.arr 3 cI true] [(0,0)]) (.b (.b (.j (JB 30) .o) .o) .o))))) .o))))) (c1 jt<|bR)
def vD:cU Sx:={f:=223,ins:=[oA 0,oI,oI,oI],eW:=[.arr 3 cI true],ls:=[(.sl cI),cI,cI,cI],pm:=[3,0,1,2],bk:=[1,2,3,0],outs:=[mK (.mj []) [.now (.arr 3 cI true)]],pJ:=fun x=>lj x.1 x.2.1 x.2.2.1 x.2.2.2}
theorem vx:SX vD:=fq Tryz.f223 [] {lW:=[56],fn:=223} (.b .o (.u (.lp (JO [(8,oI)] [.arr 3 cI true] [(0,0)]) (.u (.b .o (.b .o (.b (.b (.j (JB 36) .o) (.j (JI 9) .o)) .o))))))) (c1 jt<|bR)
def vC:cU Sx:={f:=168,ins:=[oA 0,oI,oI],eW:=[.arr 3 cI true],ls:=[(.sl cI),cI,cI],pm:=[2,0,1],bk:=[1,2,0],outs:=[mK (.mj []) [.now (.arr 3 cI true)]],pJ:=fun x=>pS x.1 x.2.1 x.2.2}
theorem vw:SX vC:=fq Tryz.f168 [] {lW:=[56],fn:=168} (.b .o (.b .o (.b .o (.b (.b .o (.j (JO [] [.arr 3 cI true] [(0,0)]) (.u (.lp (JO [(9,oI)] [.arr 3 cI true] [(0,0)]) .o)))) (.b .o (.u (.lp (JO [(10,oI)] [.arr 3 cI true] [(0,0)]) .o))))))) (c1 vx<|bR)
def sC:cU Sx:={f:=169,ins:=[oA 0,oI,oI],eW:=[.arr 3 cI true],ls:=[(.sl cI),cI,cI],pm:=[2,0,1],bk:=[1,2,0],outs:=[mK (.mj []) [.now (.arr 3 cI true)]],pJ:=fun x=>nt x.1 x.2.1 x.2.2}
theorem su:SX sC:=fq Tryz.f169 [] {lW:=[56],fn:=169} (.b .o (.b .o (.b (.b .o (.b .o (.b .o (.u (.lp (JO [(9,oI)] [.arr 3 cI true,.box 277 [.cX (.int .u64)]] [(0,0),(1,769)]) (.b .o (.b (.u (.b .o (.b (.b .o (.j (JI 10) .o)) .o))) .o))))))) .o))) (c1 oe<|c1 pI<|bR)
def wL:cU Sx:={f:=254,ins:=[oA 0,oI,oI,oP 1 0],eW:=[.arr 3 cI true,.box 3 [.cX cI]],ls:=[(.sl cI),cI,cI,cI],pm:=[2,0,1,3],bk:=[1,2,0,3],outs:=[mK (.mj [oI,oI]) [.kept,.now (.box 3 [.cX cI])]],pJ:=fun x=>ic x.1 x.2.1 x.2.2.1 x.2.2.2}
theorem wm:SX wL:=fq Tryz.f254 [.tmp 8,.tmp 9] {fn:=254} .o (c1 jt<|bR)
def wK:cU Sx:={f:=227,ins:=[oA 0,oI,oI,oI,oP 1 0],eW:=[.arr 3 cI true,.box 3 [.cX cI]],ls:=[(.sl cI),cI,cI,cI,cI],pm:=[3,0,1,2,4],bk:=[1,2,3,0,4],outs:=[mK oI [.kept,.now (.box 3 [.cX cI])]],pJ:=fun x=>mD x.1 x.2.1 x.2.2.1 x.2.2.2.1 x.2.2.2.2}
theorem pG:SX wK:=fq Tryz.f227 [.tmp 10] {fn:=227} .o (c1 wm<|bR)
def rN:cU Sx:={f:=226,ins:=[oA 0,oI,oP 1 0],eW:=[.arr 3 cI true,.box 3 [.cX cI]],ls:=[(.sl cI),cI,cI],pm:=[1,0,2],bk:=[1,0,2],outs:=[mK oI [.kept,.now (.box 3 [.cX cI])]],pJ:=fun x=>eU x.1 x.2.1 x.2.2}
theorem rD:SX rN:=fq Tryz.f226 [.tmp 6] {fn:=226} .o (c1 pG<|bR)
def tP:cU Sx:={f:=170,ins:=[oA 0,oI,oI],eW:=[.arr 3 cI true],ls:=[(.sl cI),cI,cI],pm:=[2,0,1],bk:=[1,2,0],outs:=[mK (.mj [oI,oI]) [.kept]],pJ:=fun x=>nZ x.1 x.2.1 x.2.2}
theorem tj:SX tP:=fq Tryz.f170 [.tmp 6,.tmp 7] {fn:=170} (.b .o (.b .o (.b .o (.b .o (.b .o (.b .o (.b (.b .o (.j (JO [(11,oI)] [.box 3 [.cX cI]] [(0,641)]) (.b (.b (.b .o (.j (JO [(10,oI),(11,oI),(12,oI)] [.box 3 [.cX cI]] [(0,641)]) .o)) .o) .o))) .o))))))) (c1 rD<|c1 pG<|bR)
def sU:cU Sx:={f:=171,ins:=[oA 0,oI,oI],eW:=[.arr 3 cI true],ls:=[(.sl cI),cI,cI],pm:=[2,0,1],bk:=[1,2,0],outs:=[mK (.mj []) [.now (.arr 3 cI true)]],pJ:=fun x=>nG x.1 x.2.1 x.2.2}
theorem sO:SX sU:=fq Tryz.f171 [] {lW:=[56],fn:=171} (.b .o (.b .o (.u (.lp (JO [(6,oI),(7,oI)] [.arr 3 cI true] [(0,0)]) .o)))) (bR)
def pM:cU Sx:={f:=172,ins:=[oA 0,oI,oI],eW:=[.arr 3 cI true],ls:=[(.sl cI),cI,cI],pm:=[2,0,1],bk:=[1,2,0],outs:=[mK oB [.now (.arr 3 cI true)]],pJ:=fun x=>js x.1 x.2.1 x.2.2}
theorem pH:SX pM:=fq Tryz.f172 [.tmp 6] {lW:=[56],fn:=172} (.b .o (.b .o (.b (.b .o (.u (.lp (JO [(7,oI),(8,oI)] [.arr 3 cI true] [(0,0)]) (.b .o (.b (.u (.b (.j (JI 7) (.u (.lp (JI 7) (.b (.b (.j (JB 32) .o) .o) .o)))) (.b .o (.b .o (.b .o (.b (.b .o (.j (JO [] [.arr 3 cI true] [(0,0)]) (.b (.b .o (.u (.lp (JO [(9,oI)] [.arr 3 cI true] [(0,0)]) .o))) .o))) (.b .o (.b (.b .o (.u (.lp (JO [(10,oI)] [.arr 3 cI true] [(0,0)]) .o))) .o)))))))) .o))))) .o))) (c1 jt<|bR)
def rO:cU Sx:={f:=174,ins:=[oA 0,oI,oI,oI],eW:=[.arr 3 cI true],ls:=[(.sl cI),cI,cI,cI],pm:=[3,0,1,2],bk:=[1,2,3,0],outs:=[mK oI [.now (.arr 3 cI true)]],pJ:=fun x=>mL x.1 x.2.1 x.2.2.1 x.2.2.2}
theorem rE:SX rO:=fq Tryz.f174 [.tmp 8] {lW:=[56],fn:=174} (.b .o (.b .o (.b .o (.b (.u (.lp (JO [(9,oI),(10,oI)] [.arr 3 cI true] [(0,0)]) (.u (.b (.j (JI 9) (.u (.lp (JI 9) (.b (.b (.j (JB 43) .o) .o) .o)))) (.b (.j (JI 10) (.u (.lp (JI 10) (.b (.b (.j (JB 59) .o) .o) .o)))) .o))))) .o)))) (c1 jt<|bR)
def uM:cU Sx:={f:=175,ins:=[oA 0,oI,oI,oI],eW:=[.arr 3 cI true],ls:=[(.sl cI),cI,cI,cI],pm:=[3,0,1,2],bk:=[1,2,3,0],outs:=[mK (.mj [oI,oB]) [.now (.arr 3 cI true)]],pJ:=fun x=>pD x.1 x.2.1 x.2.2.1 x.2.2.2}
theorem uH:SX uM:=fq Tryz.f175 [.tmp 8,.tmp 9] {lW:=[56],fn:=175} (.b .o (.b .o (.b .o (.b (.j (JI 10) (.u (.lp (JI 10) (.b (.b (.j (JB 43) .o) .o) .o)))) (.b (.j (JI 11) (.u (.lp (JI 11) (.b (.b (.j (JB 60) .o) .o) .o)))) (.b .o (.b .o (.b .o (.b .o (.b (.j (JO [(11,oI)] [.arr 3 cI true] [(0,0)]) (.u (.lp (JO [(10,oI),(11,oI)] [.arr 3 cI true] [(0,0)]) (.u (.b (.j (JI 10) (.u (.lp (JI 10) (.b (.b (.j (JB 112) .o) .o) .o)))) (.b (.j (JI 11) (.u (.lp (JI 11) (.b (.b (.j (JB 129) .o) .o) .o)))) .o)))))) .o)))))))))) (c1 jt<|bR)
def oh(g:((List Int)×Int×Int×Int)->Option (List Int)):cU Sx:={f:=99,ins:=[oA 0,oI,oI,oI],eW:=[.arr 3 cI true],ls:=[(.sl cI),cI,cI,cI],pm:=[3,0,1,2],bk:=[1,2,3,0],outs:=[{out:=.mj [],lB:=[.now (.arr 3 cI true)],Bl:=[(.sl cI)]}],pJ:=g}
def vN:cU Sx:={f:=99,ins:=[oA 0,oI,oI,oI],eW:=[.arr 3 cI true],ls:=[(.sl cI),cI,cI,cI],pm:=[3,0,1,2],bk:=[1,2,3,0],outs:=[mK (.mj []) [.now (.arr 3 cI true)]],pJ:=fun x=>qy x.1 x.2.1 x.2.2.1 x.2.2.2}
theorem vF:SX vN:=Dv (c:=oh fun _=>none) (F:=j9) fun g hg=>fq (c:=oh (j9 g)) Tryz.f99 [] {fn:=99} (.b .o (.b .o (.u (.lp (JO [(1,oI),(2,oI),(3,oI),(8,oB),(9,oB)] [.arr 3 cI true] [(0,0)]) (.u (.b .o (.b .o (.b .o (.b (.b .o (.j (JO [(3,oI)] [.arr 3 cI true] [(0,0)]) .o)) (.b .o (.b (.b .o (.j (JO [(11,oI),(12,oI)] [.arr 3 cI true] [(0,0)]) .o)) (.b (.b (.j (JB 68) .o) (.j {JO [] [.arr 3 cI true] [(0,0)]with early:=true} .o)) (.b (.b (.j (JB 87) .o) .o) .o))))))))))))) (c1 hg<|c1 sv<|c1 vw<|c1 su<|c1 tj<|c1 sO<|c1 pH<|c1 jt<|c1 rE<|c1 uH<|bR)
def zO:cU Sx:=kO 45 [oA 0] [.arr 3 cI true] [mK (.mj []) [.now (.arr 3 cI true)]] iY
theorem sB:SX zO:=fq Tryz.f45 [] {fn:=45} .o (c1 ss<|c1 vF<|bR)
def pL:cU Sx:=kO 184 [.one (.fn 233 [] [.ptr 0 0])] [.box 56 [.cX (.sl cI)]] [mK (oA 1) [.kept,.now (.arr 3 cI true)]] dt
theorem ib:SX pL:=fq Tryz.f184 [.tmp 2] {lW:=[56],fn:=184} .o (c1 ot<|c1 sB<|bR)
def ES:cU Sx:=kO 243 [oP 0 0,oI] [.box 243 [.cX cI,.oL 1,.oL 2,.oL 3],.map 240 (.st 11) .bo,.fo 241 3 cI cI,.fo 241 3 cI cI] [mK (oD (.sl cI)) [.kept,.kept,.kept,.kept]] (fun x=>rQ x.1 x.2.1 x.2.2.1 x.2.2.2.1 x.2.2.2.2)
theorem Ef:SX ES:=fq Tryz.f243 [.tmp 4] {pre:=[(4,0,.frz)],fn:=243} .o (c1 th<|c1 ib<|bR)
def DZ:cU Sx:=kO 105 [oP 0 0,oI] [.box 243 [.cX cI,.oL 1,.oL 2,.oL 3],.map 240 (.st 11) .bo,.fo 241 3 cI cI,.fo 241 3 cI cI] [mK (oD (.sl cI)) [.kept,.kept,.kept,.kept]] (fun x=>qJ x.1 x.2.1 x.2.2.1 x.2.2.2.1 x.2.2.2.2)
theorem C7:SX DZ:=fq Tryz.f105 [.tmp 4] {pre:=[(4,0,.frz)],fn:=105} .o (c1 th<|c1 ib<|bR)
def Fj:cU Sx:=kK 272 [oI] oB so
theorem Ez:SX Fj:=fq Tryz.f272 [.tmp 2] {fn:=272} .o (bR)
def uL:cU Sx:={f:=244,ins:=[oA 0,oI],eW:=[.arr 3 cI false],ls:=[(.sl cI),cI],pm:=[1,0],bk:=[1,0],outs:=[mK (.mj [oI,oB]) [.kept]],pJ:=fun x=>gl x.1 x.2}
theorem uG:SX uL:=fq Tryz.f244 [.tmp 4,.tmp 5] {fn:=244} (.b .o (.b .o (.b .o (.b (.j (JI 7) (.u (.lp (J [(7,oI),(8,oI)]) .o))) .o)))) (c1 jt<|c1 Ez<|bR)
def yt:cU Sx:=kO 245 [oA 0,oI,.one (.rw 1 cI)] [.arr 3 cI false,.row 3 cI] [mK (oA 2) [.gone,.gone,.now (.arr 3 cI false)]] (s3 kz)
theorem yb:Sound Tryz.prog KT yt:=Pf adj rfl rfl (by kernel_rfl) (enters_of Tryz.func245 (by kernel_rfl) (by kernel_rfl))
def MR:cU Sx:=kO 203 [oP 0 0,oD (.sl cI)] [.box 243 [.cX cI,.oL 1,.oL 2,.oL 3],.map 240 (.st 11) .bo,.fo 241 3 cI cI,.fo 241 3 cI cI] [mK (.mj [oD (.sl cI),.one (.oL 4)]) [.kept,.kept,.kept,.kept,.now (.map 143 cI cI)]] (fun x=>wZ x.1 x.2.1 x.2.2.1 x.2.2.2.1 x.2.2.2.2)
theorem Df:SX MR:=fq Tryz.f203 [.tmp 4,.tmp 5] {lW:=[56],pre:=[(4,0,.frz)],fn:=203} (.b .o (.b .o (.b (.b .o (.j (JO [] [.map 143 cI cI] [(0,385)]) (.u (.lp (JO [(28,oI)] [.map 143 cI cI] [(0,385)]) .o)))) (.b (.b .o (.j {JO [(6,.one (.oL 0))] [.map 143 cI cI] [(0,385)]with kill:=[25,38,39]} (.u (.mr (JO [] [.sL 143 cI cI 1,.Jf cI 0] [(0,385),(1,1025)]) 1025 (.u (.b .o (.b .o (.u (.lp (JO [(48,oI)] [.sL 143 cI cI 100] [(0,385),(100,1025)]) .o))))))))) (.b .o (.b (.b .o (.j (JO [(14,oA 0)] [.arr 3 cI true] []) (.u (.lp {JO [(14,oA 0),(66,oI)] [.arr 3 cI true] []with pre:=[(14,0,.arr 3 cI)]} (.b .o (.b .o (.b (.u (.b .o (.b .o (.b (.j (JB 79) .o) .o)))) .o))))))) (.b (.j (JO [(13,oA 1)] [.map 143 cI cI,.arr 3 cI true] [(0,385)]) (.u (.lp {JO [(13,oA 1),(14,oA 2)] [.map 143 cI cI,.arr 3 cI true,.arr 3 cI false] [(0,385)]with pre:=[(13,0,.arr 3 cI)]} (.b .o (.u (.b .o (.b .o (.b .o (.b .o (.b .o (.u (.lp {JO [(14,oA 1),(103,oI)] [.map 143 cI cI,.arr 3 cI false] [(0,385)]with kill:=[92]} .o)))))))))))) .o))))))) (c1 rB<|c1 ga<|c1 Ef<|c1 C7<|c1 uG<|c1 yb<|bR)
def uh:NC Sx:={f:=284,ins:=[oP 0 0,oD (.sl cI)],eW:=[.box 243 [.cX cI,.oL 1,.oL 2,.oL 3],.map 240 (.st 11) .bo,.fo 241 3 cI cI,.fo 241 3 cI cI],ls:=[(.sl cI),cI,(.mp (.st 11) .bo),(.mp cI (.sl cI)),(.mp cI (.sl cI))],out:={out:=oP 4 0,lB:=[.kept,.now (.map 240 (.st 11) .bo),.kept,.kept,.now (.box 243 [.cX cI,.oL 5,.oL 6,.oL 7]),.now (.map 240 (.st 11) .bo),.now (.fo 241 3 cI cI),.now (.fo 241 3 cI cI)],Bl:=[(.mp (.st 11) .bo),cI,(.mp (.st 11) .bo),(.mp cI (.sl cI)),(.mp cI (.sl cI))]},JP:=fun γ k x=>nA x.1 x.2.1 x.2.2.1 x.2.2.2.1 x.2.2.2.2 k}
theorem zX:NSX uh:=nq Tryz.f284 [.tmp 4] {fn:=284} (.b .o (.b .o (.b .o (.b (.b .o (.u (.mr (JO [] [.sL 240 (.st 11) .bo 4,.map 240 (.st 11) .bo,.fo 241 3 cI cI,.fo 241 3 cI cI,.Jf (.st 11) 0] [(0,1),(1,706),(2,707),(3,708),(4,1089)]) 1089 (.u (.b .o (.b (.j (JB 34) .o) .o)))))) .o)))) (c1 C8<|c1 ga<|c1 wU<|bR)
def zN:cU Sx:=kO 290 [oD (.sl cI)] [] [mK (oA 0) [.now (.arr 3 cI true)]] mz
theorem zd:SX zN:=fq Tryz.f290 [.tmp 2] {lW:=[56],pre:=[(2,0,.arr 3 cI)],lits:=[56],fn:=290} .o (bR)
def uz:cU Sx:=kO 291 [.one (.oL 0)] [.map 323 cI .bo] [mK (.one (.fn 294 [] [.ptr 1 0])) [.kept,.now (.box 323 [.oL 0])]] jy
theorem ub:SX uz:=fq Tryz.f291 [.tmp 2] {fn:=291} .o (bR)
def eF:NC Sx:={f:=294,ins:=[.one (.yl 0),oP 1 0],eW:=[.loop 255002 .ready [(2,oP 2 0)],.box 323 [.oL 3],.box 56 [.aw 4],.map 323 cI .bo,.arr 3 cI true],ls:=[(.sl cI),(.mp cI .bo)],pm:=[1,0],bk:=[1,0],out:={out:=.mj [],lB:=[.now (.loop 255002 .ready [(2,oP 2 0)]),.kept,.now (.box 56 [.aw 5]),.now (.map 323 cI .bo),.gone,.now (.arr 3 cI true)],Bl:=[(.mp cI .bo),(.sl cI)]},JP:=fun γ k x=>dB x.1 x.2 k}
theorem jk:NSX eF:=nq Tryz.f294 [] {fn:=294} (.b .o (.u (.mr {JO [] [.loop 255002 .ready [(2,oP 1 0)],.box 56 [.aw 4],.sL 323 cI .bo 3,.Jf cI 2,.arr 3 cI true] [(0,0),(1,2),(2,3),(3,321)]with gone:=[4]} 321 .o))) (c1 pE<|bR)
def eh:NC Sx:={f:=255,ins:=[.one (.fP),.one (.fn 294 [] [.ptr 0 0])],eW:=[.box 323 [.oL 1],.map 323 cI .bo],ls:=[(.mp cI .bo)],out:={out:=oA 2,lB:=[.kept,.now (.map 323 cI .bo),.now (.arr 3 cI true)],Bl:=[(.mp cI .bo),(.sl cI)]},JP:=fun γ k x=>dh x k}
theorem g8:NSX eh:=nq Tryz.f255 [.tmp 4] {lW:=[56],fn:=255,nd:=[eF]} (.b .o (.b (.b .o (.u (.z [(2,1,.arr 3 cI)] .o))) .o)) (bR) (hΨ:=eO jk<|bR)
def ft:NC Sx:={f:=232,ins:=[.one (.fn 294 [] [.ptr 0 0])],eW:=[.box 323 [.oL 1],.map 323 cI .bo],ls:=[(.mp cI .bo)],out:={out:=oA 2,lB:=[.kept,.now (.map 323 cI .bo),.now (.arr 3 cI true)],Bl:=[(.mp cI .bo),(.sl cI)]},JP:=fun γ k x=>dR x k}
theorem lD:NSX ft:=nq Tryz.f232 [.tmp 2] {lW:=[56],fn:=232,nd:=[eh]} .o (bR) (hΨ:=eO g8<|bR)
def lX:cU Sx:=kO 184 [.one (.fn 294 [] [.ptr 0 0])] [.box 323 [.oL 1],.map 323 cI .bo] [mK (oA 2) [.kept,.now (.map 323 cI .bo),.now (.arr 3 cI true)]] df
theorem lR:SX lX:=fq Tryz.f184 [.tmp 2] {lW:=[56],fn:=184,nd:=[ft]} .o (c1 sB<|bR) (hΨ:=eO lD<|bR)
def B1:cU Sx:=kO 285 [oP 0 0,oI] [.box 243 [.cX cI,.oL 1,.oL 2,.oL 3],.map 240 (.st 11) .bo,.fo 241 3 cI cI,.fo 241 3 cI cI] [mK (oD (.sl cI)) [.kept,.kept,.kept,.kept]] (fun x=>oy x.1 x.2.1 x.2.2.1 x.2.2.2.1 x.2.2.2.2)
theorem BI:SX B1:=fq Tryz.f285 [.tmp 4] {lW:=[56],pre:=[(4,0,.frz)],fn:=285} (.b .o (.u (.b .o (.b .o (.b .o (.b .o (.b (.j {JO [] [.map 323 cI .bo] [(0,449)]with kill:=[17]} (.u (.lp {JO [(6,oA 1)] [.map 323 cI .bo,.arr 3 cI true] [(0,449)]with kill:=[17]} .o))) .o))))))) (c1 zd<|c1 ub<|c1 lR<|bR)
def MQ:cU Sx:=kO 266 [oP 0 0,oD (.sl cI)] [.box 243 [.cX cI,.oL 1,.oL 2,.oL 3],.map 240 (.st 11) .bo,.fo 241 3 cI cI,.fo 241 3 cI cI] [mK (oA 4) [.kept,.now (.map 240 (.st 11) .bo),.kept,.kept,.now (.arr 3 cI true)]] (fun x=>zG x.1 x.2.1 x.2.2.1 x.2.2.2.1 x.2.2.2.2)
theorem Mt:SX MQ:=fq Tryz.f266 [.tmp 4] {lW:=[56],fn:=266,nd:=[uh]} (.b .o (.b .o (.b .o (.b .o (.b (.b .o (.u (.lp {JO [(8,oA 0),(23,oI)] [.arr 3 cI true] []with pre:=[(8,0,.arr 3 cI)]} (.b .o (.b .o (.b (.u (.b .o (.b .o (.b (.j (JB 39) .o) .o)))) .o)))))) .o))))) (c1 Df<|c1 rB<|c1 BI<|c1 ga<|bR) (hΨ:=eO zX<|bR)
def K3:cU Sx:=kO 268 [oI,oP 0 0] [.box 56 [.cX (.sl cI)]] [mK oB [.kept]] (s2 xP)
theorem BW:SX K3:=fq Tryz.f268 [.tmp 3] {fn:=268} .o (c1 ga<|bR)
def pV:cU Sx:=kO 286 [oA 0,.one (.fn 268 [] [.ptr 1 0])] [.arr 3 cI true,.box 56 [.cX (.sl cI)]] [mK oI [.kept,.kept]] (s2 fE)
theorem pO:SX pV:=fq Tryz.f286 [.tmp 4] {fn:=286} (.b .o (.b (.b .o (.u (.lp (JI 8) .o))) .o)) (c1 BW<|bR)
def pK:cU Sx:=kO 267 [oA 0,.one (.fn 268 [] [.ptr 1 0])] [.arr 3 cI true,.box 56 [.cX (.sl cI)]] [mK (oD (.sl cI)) [.gone,.kept]] (s2 dV)
theorem pF:SX pK:=fq Tryz.f267 [.tmp 4] {lW:=[56],pre:=[(4,0,.frz)],parts:=[56],fn:=267} (.b .o (.b .o (.b .o (.b (.b .o (.j (JO [(5,oI)] [.arr 3 cI true] [(0,0)]) (.u (.lp (JO [(5,oI),(6,oI)] [.arr 3 cI true] [(0,0)]) .o)))) .o)))) (c1 pO<|c1 BW<|bR)
def K5:cU Sx:=kK 271 [oD (.sl cI),oI] oI (s2 xR)
theorem JU:SX K5:=fq Tryz.f271 [.tmp 4] {fn:=271} (.b .o (.b (.b (.j (JB 12) .o) .o) .o)) (bR)
def K4:cU Sx:=kO 270 [oI,oP 0 0] [.box 56 [.cX (.sl cI)]] [mK oI [.kept]] (s2 xQ)
theorem JT:SX K4:=fq Tryz.f270 [.tmp 3] {fn:=270} .o (c1 JU<|bR)
def rM:cU Sx:=kO 269 [oD (.sl cI),.one (.fn 270 [] [.ptr 0 0])] [.box 56 [.cX (.sl cI)]] [mK (.mj [oI,oB]) [.kept]] (s2 eT)
theorem rC:SX rM:=fq Tryz.f269 [.tmp 4,.tmp 5] {fn:=269} (.b .o (.b .o (.b (.b .o (.j (JI 6) (.u (.lp (J [(6,oI),(11,oI)]) (.b .o (.b .o (.b (.u (.b .o (.b (.j (JB 26) .o) .o))) .o))))))) .o))) (c1 JT<|bR)
def OO:cU Sx:=kO 241 [oP 0 0,oD (.sl cI),oD (.sl cI),oD (.sl cI)] [.box 243 [.cX cI,.oL 1,.oL 2,.oL 3],.map 240 (.st 11) .bo,.fo 241 3 cI cI,.fo 241 3 cI cI] [mK (.mj [oI,oB,oB]) [.kept,.now (.map 240 (.st 11) .bo),.kept,.kept]] (fun x=>yz x.1 x.2.1 x.2.2.1 x.2.2.2.1 x.2.2.2.2.1 x.2.2.2.2.2.1 x.2.2.2.2.2.2)
theorem EI:SX OO:=fq Tryz.f241 [.tmp 8,.tmp 9,.tmp 10] {fn:=241} .o (c1 Mt<|c1 pF<|c1 rC<|bR)
def HD:cU Sx:={f:=240,ins:=[oP 0 0,oP 1 0,oP 2 0,oP 3 0],eW:=[.box 94 [.ptr 4 0],.box 56 [.cX (.sl cI)],.box 56 [.fP],.box 56 [.cX (.sl cI)],.box 243 [.cX cI,.oL 5,.oL 6,.oL 7],.map 240 (.st 11) .bo,.fo 241 3 cI cI,.fo 241 3 cI cI],ls:=[cI,(.sl cI),(.sl cI),(.mp (.st 11) .bo),(.mp cI (.sl cI)),(.mp cI (.sl cI))],pm:=[2,0,1,3,4,5],bk:=[1,2,0,3,4,5],outs:=[mK (.mj [oB,oB]) [.kept,.kept,.now (.box 56 [.rw 8 cI]),.kept,.kept,.now (.map 240 (.st 11) .bo),.kept,.kept,.now (.row 3 cI)]],pJ:=fun x=>yy x.1 x.2.1 x.2.2.1 x.2.2.2.1 x.2.2.2.2.1 x.2.2.2.2.2}
theorem G7:SX HD:=fq Tryz.f240 [.tmp 4,.tmp 5] {fn:=240} (.b .o (.b .o (.b (.b .o (.j {JO [] [.box 56 [.rw 1 cI],.row 3 cI] [(0,2)]with pre:=[(2,1,.own 3 cI)]} .o)) .o))) (c1 EI<|bR)
def F0:cU Sx:={f:=240,ins:=[oP 0 0,oP 1 0,oP 2 0,oP 3 0],eW:=[.box 94 [.ptr 4 0],.box 56 [.cX (.sl cI)],.box 56 [.rw 5 cI],.box 56 [.cX (.sl cI)],.box 243 [.cX cI,.oL 6,.oL 7,.oL 8],.row 3 cI,.map 240 (.st 11) .bo,.fo 241 3 cI cI,.fo 241 3 cI cI],ls:=[cI,(.sl cI),(.sl cI),(.sl cI),(.mp (.st 11) .bo),(.mp cI (.sl cI)),(.mp cI (.sl cI))],pm:=[3,0,1,2,4,5,6],bk:=[1,2,3,0,4,5,6],outs:=[mK (.mj [oB,oB]) [.kept,.kept,.now (.box 56 [.rw 9 cI]),.kept,.kept,.gone,.now (.map 240 (.st 11) .bo),.kept,.kept,.now (.row 3 cI)]],pJ:=fun x=>xl x.1 x.2.1 x.2.2.1 x.2.2.2.1 x.2.2.2.2.1 x.2.2.2.2.2.1 x.2.2.2.2.2.2}
theorem FB:SX F0:=fq Tryz.f240 [.tmp 4,.tmp 5] {fn:=240} (.b .o (.b .o (.b (.b .o (.j {JO [] [.box 56 [.rw 1 cI],.row 3 cI] [(0,2)]with gone:=[5],kill:=[2,12]} .o)) .o))) (c1 EI<|bR)
def K1:cU Sx:=kO 202 [oP 0 0,oD (.sl cI),oD (.sl cI)] [.box 243 [.cX cI,.oL 1,.oL 2,.oL 3],.map 240 (.st 11) .bo,.fo 241 3 cI cI,.fo 241 3 cI cI] [mK (.mj [.one (.rw 4 cI),oB]) [.now (.box 243 [.cX cI,.oL 1,.oL 2,.oL 3]),.now (.map 240 (.st 11) .bo),.now (.fo 241 3 cI cI),.now (.fo 241 3 cI cI),.now (.row 3 cI)]] (fun x=>xO x.1 x.2.1 x.2.2.1 x.2.2.2.1 x.2.2.2.2.1 x.2.2.2.2.2)
theorem JS:SX K1:=fq Tryz.f202 [.tmp 6,.tmp 7] {pre:=[(6,0,.own 3 cI)],fn:=202} (.b .o (.b .o (.b .o (.b .o (.b (.j {JO [(8,oP 4 0),(11,oB)] [.box 243 [.cX cI,.oL 1,.oL 2,.oL 3],.map 240 (.st 11) .bo,.fo 241 3 cI cI,.fo 241 3 cI cI,.box 56 [.rw 5 cI],.row 3 cI] [(0,0),(1,1),(2,2),(3,3),(4,577)]with kill:=[3,4,5,9,12,14]} (.u (.lp {JO [(8,oP 4 0),(9,.one (.fn 240 [] [.ptr 5 0,.ptr 6 0,.ptr 4 0,.ptr 7 0])),(10,oB),(11,oB)] [.box 243 [.cX cI,.oL 1,.oL 2,.oL 3],.map 240 (.st 11) .bo,.fo 241 3 cI cI,.fo 241 3 cI cI,.box 56 [.rw 8 cI],.box 94 [.ptr 0 0],.box 56 [.cX (.sl cI)],.box 56 [.cX (.sl cI)],.row 3 cI] [(0,0),(1,1),(2,2),(3,3),(4,577),(5,257),(6,321),(7,385)]with kill:=[3,4,5,12,14]} .o))) .o))))) (c1 G7<|c1 FB<|bR)
def yr:cU Sx:=kO 139 [.agg [.cX (.sl (.st 4)),.ptr 0 0]] [.box 243 [.cX cI,.oL 1,.oL 2,.oL 3],.map 240 (.st 11) .bo,.fo 241 3 cI cI,.fo 241 3 cI cI] [mK (.one (.rw 4 cI)) [.now (.box 243 [.cX cI,.oL 1,.oL 2,.oL 3]),.now (.map 240 (.st 11) .bo),.now (.fo 241 3 cI cI),.now (.fo 241 3 cI cI),.now (.row 3 cI)]] (fun x=>n8 x.1 x.2.1 x.2.2.1 x.2.2.2.1 x.2.2.2.2)
theorem ya:SX yr:=fq Tryz.f139 [.tmp 2] {fn:=139} (.b .o (.b .o (.b (.b .o (.j (JO [(3,.one (.rw 0 cI))] [.row 3 cI] []) (.u (.lp {JO [(3,.one (.rw 0 cI)),(11,oI)] [.row 3 cI] []with pre:=[(3,0,.own 3 cI)]} .o)))) .o))) (c1 pT<|c1 JS<|bR)
def OT:cU Sx:=kO 140 [oP 0 0,oD (.sl cI)] [.box 243 [.cX cI,.oL 1,.oL 2,.oL 3],.map 240 (.st 11) .bo,.fo 241 3 cI cI,.fo 241 3 cI cI] [mK (.mj [oD (.sl cI),oB]) [.kept,.kept,.kept,.kept]] (fun x=>BP x.1 x.2.1 x.2.2.1 x.2.2.2.1 x.2.2.2.2)
theorem M5:SX OT:=fq Tryz.f140 [.tmp 4,.tmp 5] {fn:=140} .o (c1 Df<|bR)
def OJ:cU Sx:=kO 66 [oD (.sl (.st 4))] [] [mK (.agg [.cX (.sl (.st 4)),.ptr 0 0,.cX (.sl cI),.cX (.sl cI)]) [.now (.box 243 [.cX cI,.oL 1,.oL 2,.oL 3]),.now (.map 240 (.st 11) .bo),.now (.fo 241 3 cI cI),.now (.fo 241 3 cI cI)]] A7
theorem M1:SX OJ:=fq Tryz.f66 [.cell 2 98] {fn:=66} .o (c1 G5<|c1 ya<|c1 pT<|c1 M5<|bR)
def KX:cU Sx:=kO 83 [oS 6,oD (.sl (.st 4))] [] [mK (.agg [.cX cI,.cX cI,.cX (.a8 32),.cX (.a8 32),.aw 0]) [.now (.arr 72 (.st 4) true)]] (s2 xL)
theorem JQ:SX KX:=fq Tryz.f83 [.cell 4 27] {lW:=[25],fn:=83} (.b .o (.b .o (.b (.b .o (.u (.lp {JO [(10,oI)] [.box 27 [.cX cI,.cX cI,.cX (.a8 32),.cX (.a8 32),.aw 2],.box 27 [.cX cI,.cX cI,.cX (.a8 32),.cX (.a8 32),.aw 3],.arr 72 (.st 4) true,.arr 72 (.st 4) true] [(0,257),(1,321)]with pre:=[(2,5,.arr 72 (.st 4)),(4,5,.arr 72 (.st 4))]} .o))) .o))) (c1 wi<|bR)
def xf:cU Sx:=kO 246 [.one (.fP),oI] [] [mK (.one (.rw 0 .u8)) [.now (.row 5 .u8)]] iX
theorem wY:SX xf:=fq Tryz.f246 [.tmp 4] {pre:=[(4,0,.own 5 .u8)],fn:=246} .o (bR)
def yZ:cU Sx:=kO 205 [oD (.sl cT)] [] [mK (.one (.rw 0 .u8)) [.now (.row 5 .u8)]] lI
theorem yU:SX yZ:=fq Tryz.f205 [.tmp 2] {fn:=205} (.b .o (.b .o (.b (.b .o (.j (JI 3) (.u (.lp (J [(3,oI),(11,oI)]) .o)))) (.b .o (.b (.b .o (.u (.lp {JO [(6,.one (.rw 0 .u8)),(27,oI)] [.row 5 .u8] []with kill:=[24]} .o))) .o))))) (c1 wY<|bR)
def FX:cU Sx:=kK 143 [oI,oD (.sl cT)] (oS 4) (s2 tw)
theorem Fy:SX FX:=fq Tryz.f143 [.cell 4 72] {fn:=143} .o (c1 yU<|bR)
def Gj:cU Sx:=kO 68 [oD cT,oS 6,oD (.sl cI)] [] [mK (.mj [.agg [.cX cI,.cX cI,.cX (.a8 32),.cX (.a8 32),.aw 0],oB]) [.now (.arr 72 (.st 4) true)]] (s3 tM)
theorem FO:SX Gj:=fq Tryz.f68 [.cell 6 27,.tmp 7] {lW:=[25],pre:=[(6,5,.arr 72 (.st 4))],fn:=68} (.b .o (.b .o (.b .o (.b (.b .o (.u (.lp {JO [(26,oI)] [.box 27 [.cX cI,.cX cI,.cX (.a8 32),.cX (.a8 32),.aw 2],.arr 72 (.st 4) true,.arr 72 (.st 4) true] [(0,321),(1,961)]with pre:=[(6,5,.arr 72 (.st 4))]} (.b .o (.b .o (.b (.u (.b .o (.b .o (.b (.j (JB 41) .o) .o)))) .o)))))) .o)))) (c1 JQ<|c1 qT<|c1 ga<|c1 Fy<|bR)
def DV:cU Sx:=kK 70 [oS 4] oB nM
theorem wS:SX DV:=fq Tryz.f70 [.tmp 2] {fn:=70} .o (bR)
def iE:cU Sx:=kO 144 [oA 0,.one (.fn 70 [] [])] [.arr 72 (.st 4) true] [mK oI [.kept]] cG
theorem iz:SX iE:=fq Tryz.f144 [.tmp 4] {fn:=144} (.b .o (.b (.b .o (.u (.lp (JI 8) .o))) .o)) (c1 wS<|bR)
def gY:cU Sx:=kO 69 [oA 0,.one (.fn 70 [] [])] [.arr 72 (.st 4) true] [mK (oA 0) [.kept],mK (oA 1) [.gone,.now (.arr 72 (.st 4) true)]] cy
theorem gW:SX gY:=fq Tryz.f69 [.tmp 4] {lW:=[25],parts:=[25],fn:=69} (.b .o (.b .o (.b .o (.b (.b .o (.j (JO [(5,oI)] [.arr 72 (.st 4) true] [(0,0)]) (.u (.lp (JO [(5,oI),(6,oI)] [.arr 72 (.st 4) true] [(0,0)]) .o)))) .o)))) (c1 iz<|c1 wS<|bR)
def DW:cU Sx:=kK 72 [oS 4,oS 4] oI (s2 cM)
theorem fZ:SX DW:=fq Tryz.f72 [.tmp 4] {fn:=72} .o (c1 tZ<|bR)
def iR:cU Sx:={f:=206,ins:=[oA 0,oI,oI,.one (.fn 72 [] [])],eW:=[.arr 72 (.st 4) true],ls:=[(.sl (.st 4)),cI,cI],pm:=[2,0,1],bk:=[1,2,0],outs:=[mK (.mj []) [.now (.arr 72 (.st 4) true)]],pJ:=fun x=>eH x.1 x.2.1 x.2.2}
theorem iO:SX iR:=fq Tryz.f206 [] {lW:=[25],fn:=206} (.b .o (.u (.lp (JO [(8,oI)] [.arr 72 (.st 4) true] [(0,0)]) (.b .o (.b (.u (.b .o (.u (.lp (JO [(9,oI)] [.arr 72 (.st 4) true] [(0,0)]) (.b (.b (.j (JB 34) .o) .o) .o))))) .o))))) (c1 fZ<|bR)
def kr:cU Sx:={f:=247,ins:=[oA 0,oI,oI,oI,.one (.fn 72 [] [])],eW:=[.arr 72 (.st 4) true],ls:=[(.sl (.st 4)),cI,cI,cI],pm:=[3,0,1,2],bk:=[1,2,3,0],outs:=[mK (.mj []) [.now (.arr 72 (.st 4) true)]],pJ:=fun x=>dL x.1 x.2.1 x.2.2.1 x.2.2.2}
theorem kg:SX kr:=fq Tryz.f247 [] {lW:=[25],fn:=247} (.b .o (.u (.lp (JO [(10,oI)] [.arr 72 (.st 4) true] [(0,0)]) (.u (.b .o (.b .o (.b (.b (.j (JB 40) .o) (.j (JI 11) .o)) .o))))))) (c1 fZ<|bR)
def kn:cU Sx:={f:=207,ins:=[oA 0,oI,oI,.one (.fn 72 [] [])],eW:=[.arr 72 (.st 4) true],ls:=[(.sl (.st 4)),cI,cI],pm:=[2,0,1],bk:=[1,2,0],outs:=[mK (.mj []) [.now (.arr 72 (.st 4) true)]],pJ:=fun x=>fj x.1 x.2.1 x.2.2}
theorem kb:SX kn:=fq Tryz.f207 [] {lW:=[25],fn:=207} (.b .o (.b .o (.b .o (.b (.b .o (.j (JO [] [.arr 72 (.st 4) true] [(0,0)]) (.u (.lp (JO [(11,oI)] [.arr 72 (.st 4) true] [(0,0)]) .o)))) (.b .o (.u (.lp (JO [(12,oI)] [.arr 72 (.st 4) true] [(0,0)]) .o))))))) (c1 kg<|bR)
def iQ:cU Sx:={f:=208,ins:=[oA 0,oI,oI,.one (.fn 72 [] [])],eW:=[.arr 72 (.st 4) true],ls:=[(.sl (.st 4)),cI,cI],pm:=[2,0,1],bk:=[1,2,0],outs:=[mK (.mj []) [.now (.arr 72 (.st 4) true)]],pJ:=fun x=>eG x.1 x.2.1 x.2.2}
theorem iM:SX iQ:=fq Tryz.f208 [] {lW:=[25],fn:=208} (.b .o (.b .o (.b (.b .o (.b .o (.b .o (.u (.lp (JO [(11,oI)] [.arr 72 (.st 4) true,.box 277 [.cX (.int .u64)]] [(0,0),(1,769)]) (.b .o (.b (.u (.b .o (.b (.b .o (.j (JI 12) .o)) .o))) .o))))))) .o))) (c1 oe<|c1 pI<|bR)
def lz:cU Sx:={f:=275,ins:=[oA 0,oI,oI,oP 1 0,.one (.fn 72 [] [])],eW:=[.arr 72 (.st 4) true,.box 3 [.cX cI]],ls:=[(.sl (.st 4)),cI,cI,cI],pm:=[2,0,1,3],bk:=[1,2,0,3],outs:=[mK (.mj [oI,oI]) [.kept,.now (.box 3 [.cX cI])]],pJ:=fun x=>c8 x.1 x.2.1 x.2.2.1 x.2.2.2}
theorem lr:SX lz:=fq Tryz.f275 [.tmp 10,.tmp 11] {fn:=275} .o (c1 fZ<|bR)
def ly:cU Sx:={f:=249,ins:=[oA 0,oI,oI,oI,oP 1 0,.one (.fn 72 [] [])],eW:=[.arr 72 (.st 4) true,.box 3 [.cX cI]],ls:=[(.sl (.st 4)),cI,cI,cI,cI],pm:=[3,0,1,2,4],bk:=[1,2,3,0,4],outs:=[mK oI [.kept,.now (.box 3 [.cX cI])]],pJ:=fun x=>dQ x.1 x.2.1 x.2.2.1 x.2.2.2.1 x.2.2.2.2}
theorem e8:SX ly:=fq Tryz.f249 [.tmp 12] {fn:=249} .o (c1 lr<|bR)
def iG:cU Sx:={f:=248,ins:=[oA 0,oI,oP 1 0,.one (.fn 72 [] [])],eW:=[.arr 72 (.st 4) true,.box 3 [.cX cI]],ls:=[(.sl (.st 4)),cI,cI],pm:=[1,0,2],bk:=[1,0,2],outs:=[mK oI [.kept,.now (.box 3 [.cX cI])]],pJ:=fun x=>cH x.1 x.2.1 x.2.2}
theorem iA:SX iG:=fq Tryz.f248 [.tmp 8] {fn:=248} .o (c1 e8<|bR)
def jv:cU Sx:={f:=209,ins:=[oA 0,oI,oI,.one (.fn 72 [] [])],eW:=[.arr 72 (.st 4) true],ls:=[(.sl (.st 4)),cI,cI],pm:=[2,0,1],bk:=[1,2,0],outs:=[mK (.mj [oI,oI]) [.kept]],pJ:=fun x=>eP x.1 x.2.1 x.2.2}
theorem jl:SX jv:=fq Tryz.f209 [.tmp 8,.tmp 9] {fn:=209} (.b .o (.b .o (.b .o (.b .o (.b .o (.b .o (.b (.b .o (.j (JO [(13,oI)] [.box 3 [.cX cI]] [(0,641)]) (.b (.b (.b .o (.j (JO [(12,oI),(13,oI),(14,oI)] [.box 3 [.cX cI]] [(0,641)]) .o)) .o) .o))) .o))))))) (c1 iA<|c1 e8<|bR)
def jj:cU Sx:={f:=210,ins:=[oA 0,oI,oI,.one (.fn 72 [] [])],eW:=[.arr 72 (.st 4) true],ls:=[(.sl (.st 4)),cI,cI],pm:=[2,0,1],bk:=[1,2,0],outs:=[mK (.mj []) [.now (.arr 72 (.st 4) true)]],pJ:=fun x=>eL x.1 x.2.1 x.2.2}
theorem ja:SX jj:=fq Tryz.f210 [] {lW:=[25],fn:=210} (.b .o (.b .o (.u (.lp (JO [(8,oI),(9,oI)] [.arr 72 (.st 4) true] [(0,0)]) .o)))) (bR)
def gM:cU Sx:={f:=211,ins:=[oA 0,oI,oI,.one (.fn 72 [] [])],eW:=[.arr 72 (.st 4) true],ls:=[(.sl (.st 4)),cI,cI],pm:=[2,0,1],bk:=[1,2,0],outs:=[mK oB [.now (.arr 72 (.st 4) true)]],pJ:=fun x=>dW x.1 x.2.1 x.2.2}
theorem gF:SX gM:=fq Tryz.f211 [.tmp 8] {lW:=[25],fn:=211} (.b .o (.b .o (.b (.b .o (.u (.lp (JO [(9,oI),(10,oI)] [.arr 72 (.st 4) true] [(0,0)]) (.b .o (.b (.u (.b (.j (JI 9) (.u (.lp (JI 9) (.b (.b (.j (JB 36) .o) .o) .o)))) (.b .o (.b .o (.b .o (.b (.b .o (.j (JO [] [.arr 72 (.st 4) true] [(0,0)]) (.b (.b .o (.u (.lp (JO [(11,oI)] [.arr 72 (.st 4) true] [(0,0)]) .o))) .o))) (.b .o (.b (.b .o (.u (.lp (JO [(12,oI)] [.arr 72 (.st 4) true] [(0,0)]) .o))) .o)))))))) .o))))) .o))) (c1 fZ<|bR)
def iI:cU Sx:={f:=212,ins:=[oA 0,oI,oI,oI,.one (.fn 72 [] [])],eW:=[.arr 72 (.st 4) true],ls:=[(.sl (.st 4)),cI,cI,cI],pm:=[3,0,1,2],bk:=[1,2,3,0],outs:=[mK oI [.now (.arr 72 (.st 4) true)]],pJ:=fun x=>eD x.1 x.2.1 x.2.2.1 x.2.2.2}
theorem iC:SX iI:=fq Tryz.f212 [.tmp 10] {lW:=[25],fn:=212} (.b .o (.b .o (.b .o (.b (.u (.lp (JO [(11,oI),(12,oI)] [.arr 72 (.st 4) true] [(0,0)]) (.u (.b (.j (JI 11) (.u (.lp (JI 11) (.b (.b (.j (JB 47) .o) .o) .o)))) (.b (.j (JI 12) (.u (.lp (JI 12) (.b (.b (.j (JB 65) .o) .o) .o)))) .o))))) .o)))) (c1 fZ<|bR)
def jQ:cU Sx:={f:=213,ins:=[oA 0,oI,oI,oI,.one (.fn 72 [] [])],eW:=[.arr 72 (.st 4) true],ls:=[(.sl (.st 4)),cI,cI,cI],pm:=[3,0,1,2],bk:=[1,2,3,0],outs:=[mK (.mj [oI,oB]) [.now (.arr 72 (.st 4) true)]],pJ:=fun x=>eZ x.1 x.2.1 x.2.2.1 x.2.2.2}
theorem jN:SX jQ:=fq Tryz.f213 [.tmp 10,.tmp 11] {lW:=[25],fn:=213} (.b .o (.b .o (.b .o (.b (.j (JI 12) (.u (.lp (JI 12) (.b (.b (.j (JB 47) .o) .o) .o)))) (.b (.j (JI 13) (.u (.lp (JI 13) (.b (.b (.j (JB 66) .o) .o) .o)))) (.b .o (.b .o (.b .o (.b .o (.b (.j (JO [(13,oI)] [.arr 72 (.st 4) true] [(0,0)]) (.u (.lp (JO [(12,oI),(13,oI)] [.arr 72 (.st 4) true] [(0,0)]) (.u (.b (.j (JI 12) (.u (.lp (JI 12) (.b (.b (.j (JB 120) .o) .o) .o)))) (.b (.j (JI 13) (.u (.lp (JI 13) (.b (.b (.j (JB 139) .o) .o) .o)))) .o)))))) .o)))))))))) (c1 fZ<|bR)
def eS(g:((List bN)×Int×Int×Int)->Option (List bN)):cU Sx:={f:=145,ins:=[oA 0,oI,oI,oI,.one (.fn 72 [] [])],eW:=[.arr 72 (.st 4) true],ls:=[(.sl (.st 4)),cI,cI,cI],pm:=[3,0,1,2],bk:=[1,2,3,0],outs:=[{out:=.mj [],lB:=[.now (.arr 72 (.st 4) true)],Bl:=[(.sl (.st 4))]}],pJ:=g}
def kQ:cU Sx:={f:=145,ins:=[oA 0,oI,oI,oI,.one (.fn 72 [] [])],eW:=[.arr 72 (.st 4) true],ls:=[(.sl (.st 4)),cI,cI,cI],pm:=[3,0,1,2],bk:=[1,2,3,0],outs:=[mK (.mj []) [.now (.arr 72 (.st 4) true)]],pJ:=fun x=>fA x.1 x.2.1 x.2.2.1 x.2.2.2}
theorem kI:SX kQ:=Dv (c:=eS fun _=>none) (F:=dI) fun g hg=>fq (c:=eS (dI g)) Tryz.f145 [] {fn:=145} (.b .o (.b .o (.u (.lp (JO [(1,oI),(2,oI),(3,oI),(10,oB),(11,oB)] [.arr 72 (.st 4) true] [(0,0)]) (.u (.b .o (.b .o (.b .o (.b (.b .o (.j (JO [(3,oI)] [.arr 72 (.st 4) true] [(0,0)]) .o)) (.b .o (.b (.b .o (.j (JO [(13,oI),(14,oI)] [.arr 72 (.st 4) true] [(0,0)]) .o)) (.b (.b (.j (JB 75) .o) (.j {JO [] [.arr 72 (.st 4) true] [(0,0)]with early:=true} .o)) (.b (.b (.j (JB 97) .o) .o) .o))))))))))))) (c1 hg<|c1 iO<|c1 kb<|c1 iM<|c1 jl<|c1 ja<|c1 gF<|c1 fZ<|c1 iC<|c1 jN<|bR)
def ie:cU Sx:=kO 71 [oA 0,.one (.fn 72 [] [])] [.arr 72 (.st 4) true] [mK (.mj []) [.now (.arr 72 (.st 4) true)]] cE
theorem ia:SX ie:=fq Tryz.f71 [] {lW:=[25],fn:=71} .o (c1 ss<|c1 kI<|bR)
def FY:cU Sx:=kK 21 [oD cT,oD (.sl (.st 4))] (oD (.sl (.st 4))) (s2 tz)
theorem Fz:SX FY:=fq Tryz.f21 [.tmp 4] {lW:=[25],pre:=[(4,0,.frz)],fn:=21} (.b .o (.b .o (.b .o (.b (.b .o (.j (JO [(6,oA 0)] [.arr 72 (.st 4) true] []) (.u (.lp {JO [(6,oA 0),(17,oI)] [.arr 72 (.st 4) true] []with pre:=[(6,0,.arr 72 (.st 4))]} .o)))) (.b .o (.b (.j {JO [(11,oA 0)] [.arr 72 (.st 4) true] []with kill:=[9,30,38,39]} .o) (.b .o (.b (.z [(11,0,.frz)] .o) .o)))))))) (c1 M1<|c1 wi<|c1 FO<|c1 gW<|c1 ia<|bR)
def FZ:cU Sx:=kK 29 [oD cT,oS 6] (.mj [oS 6,oS 8]) (s2 jm)
theorem ua:SX FZ:=fq Tryz.f29 [.cell 4 27,.cell 5 30] {fn:=29} .o (c1 BX<|c1 Fz<|c1 zW<|bR)
def F5:cU Sx:=kK 86 [oS 4,oS 4] oB (s2 tE)
theorem FE:SX F5:=fq Tryz.f86 [.tmp 4] {fn:=86} .o (bR)
def HJ:cU Sx:=kK 35 [oD (.sl (.st 4)),oD (.sl (.st 4))] oB (s2 rh)
theorem zE:SX HJ:=fq Tryz.f35 [.tmp 4] {fn:=35} (.b .o (.b .o (.b (.b .o (.u (.lp (JI 5) .o))) .o))) (c1 FE<|bR)
def ET:cU Sx:=kK 28 [] oB (fun _=>jR)
theorem xC:SX ET:=fq Tryz.f28 [.tmp 0] {fn:=28} .o (c1 He<|c1 ua<|c1 zE<|bR)
def D0:cU Sx:=kO 153 [oI] [] [mK (.one (.rw 0 (.int .u64))) [.now (.row 37 (.int .u64))]] uR
theorem C9:SX D0:=fq Tryz.f153 [.tmp 2] {fn:=153} (.b .o (.b .o (.b (.b .o (.u (.lp {JO [(3,.one (.rw 0 (.int .u64))),(4,oD (.int .u64))] [.row 37 (.int .u64)] []with pre:=[(3,0,.own 37 (.int .u64))]} (.b .o (.b (.u (.b .o (.b (.b .o (.j (JB 5) (.u (.lp (J [(5,oB),(6,oI)]) .o)))) .o))) .o))))) .o))) (bR)
def EY:cU Sx:=kK 277 [.agg [.cX (.ai 4 .u64)],oD (.int .u64)] (.agg [.cX (.ai 4 .u64)]) (s2 o4)
theorem Ej:SX EY:=fq Tryz.f277 [.cell 4 293] {fn:=277} (.b .o (.b .o (.b .o (.b (.b .o (.u (.lp (JO [(5,oD (.int .u64)),(7,oI)] [.box 293 [.cX (.ai 4 .u64)]] [(0,449)]) .o))) .o)))) (bR)
def EZ:cU Sx:=kK 278 [.agg [.cX (.ai 4 .u64)]] (.agg [.cX (.ai 4 .u64)]) rU
theorem Ek:SX EZ:=fq Tryz.f278 [.cell 2 293] {fn:=278} (.b .o (.b .o (.b .o (.b (.b .o (.u (.lp (JO [(3,oD (.int .u64)),(5,oI)] [.box 293 [.cX (.ai 4 .u64)]] [(0,449)]) .o))) .o)))) (bR)
def F3:cU Sx:=kK 276 [.agg [.cX (.ai 4 .u64)],.agg [.cX (.ai 4 .u64)]] (.agg [.cX (.ai 4 .u64)]) (s2 tC)
theorem FC:SX F3:=fq Tryz.f276 [.cell 4 293] {fn:=276} (.b .o (.b .o (.b .o (.b (.b .o (.u (.lp (JO [(5,oD (.int .u64)),(7,oI)] [.box 293 [.cX (.ai 4 .u64)]] [(0,513)]) .o))) .o)))) (bR)
def E1:cU Sx:=kK 250 [.agg [.cX (.ai 4 .u64)],oD (.int .u64)] (.agg [.cX (.ai 4 .u64)]) (s2 mS)
theorem El:SX E1:=fq Tryz.f250 [.cell 4 293] {fn:=250} .o (c1 Ej<|c1 Ek<|c1 FC<|bR)
def EX:cU Sx:=kK 216 [oD (.int .u64),oD (.int .u64),oB] oB (s3 rT)
theorem Ei:SX EX:=fq Tryz.f216 [.tmp 6] {fn:=216} (.b .o (.b .o (.b .o (.b (.b .o (.j (JO [] [.box 293 [.cX (.ai 4 .u64)],.box 293 [.cX (.ai 4 .u64)]] [(0,769),(1,1025)]) .o)) (.b (.b .o (.u (.lp (JI 9) .o))) .o))))) (c1 El<|bR)
def F4:cU Sx:=kK 154 [oD (.int .u64),oB] (oD (.int .u32)) (s2 tD)
theorem FD:SX F4:=fq Tryz.f154 [.tmp 4] {fn:=154} (.b .o (.b .o (.b .o (.b (.b .o (.j (J [(6,oD (.int .u64))]) .o)) (.b (.u (.lp (J [(5,oD (.int .u64)),(6,oD (.int .u64))]) .o)) .o))))) (c1 Ei<|bR)
def AZ:cU Sx:=kO 85 [oI,oB] [] [mK (.one (.rw 0 (.int .u32))) [.now (.row 206 (.int .u32))]] (s2 kW)
theorem AK:SX AZ:=fq Tryz.f85 [.tmp 4] {fn:=85} (.b .o (.b .o (.b .o (.b (.b .o (.u (.lp {JO [(5,.one (.rw 0 (.int .u32))),(7,oI)] [.row 206 (.int .u32)] []with pre:=[(5,0,.own 206 (.int .u32))]} .o))) .o)))) (c1 C9<|c1 FD<|bR)
def EV:cU Sx:=kK 31 [] (oS 10) (fun _=>mR)
theorem xD:SX EV:=fq Tryz.f31 [.cell 0 53] {fn:=31} .o (c1 AK<|bR)
def HH:cU Sx:=kK 129 [] oI (fun _=>fu)
theorem zD:SX HH:=fq Tryz.f129 [.tmp 0] {fn:=129} .o (bR)
def HM:cU Sx:=kK 196 [oS 4] oI kY
theorem qU:SX HM:=fq Tryz.f196 [.tmp 2] {fn:=196} .o (bR)
def D3:cU Sx:=kK 132 [oS 4] (oS 13) gL
theorem n5:SX D3:=fq Tryz.f132 [.cell 2 92] {fn:=132} .o (c1 qU<|bR)
def EU:cU Sx:=kK 235 [oS 13] oB oY
theorem Eg:SX EU:=fq Tryz.f235 [.tmp 2] {fn:=235} .o (c1 zD<|bR)
def D2:cU Sx:=kK 166 [oS 4] (oS 13) nP
theorem wW:SX D2:=fq Tryz.f166 [.cell 2 92] {fn:=166} .o (bR)
def E2:cU Sx:=kK 195 [oS 4] oI rV
theorem Em:SX E2:=fq Tryz.f195 [.tmp 2] {fn:=195} (.b .o (.b (.b (.j (JB 10) .o) .o) (.b .o (.b .o (.b (.b (.j (JB 32) .o) .o) (.b (.b (.j (JB 45) .o) .o) .o)))))) (c1 qU<|c1 n5<|c1 Eg<|c1 wW<|bR)
def D4:cU Sx:=kK 130 [oS 6,oS 4] oI (s2 qL)
theorem Da:SX D4:=fq Tryz.f130 [.tmp 4] {fn:=130} (.b .o (.b .o (.b .o (.b (.b (.j (JB 23) .o) .o) .o)))) (c1 Em<|c1 qU<|bR)
def Ci:cU Sx:=kK 131 [oS 13,oS 13] (oS 13) (s2 jS)
theorem vI:SX Ci:=fq Tryz.f131 [.cell 4 92] {fn:=131} .o (bR)
def HG:cU Sx:=kK 215 [oS 13,oI] oB (s2 yA)
theorem G9:SX HG:=fq Tryz.f215 [.tmp 4] {fn:=215} .o (bR)
def HQ:cU Sx:=kK 152 [oS 4,oI] oB (s2 uU)
theorem Hc:SX HQ:=fq Tryz.f152 [.tmp 4] {fn:=152} .o (c1 n5<|c1 G9<|bR)
def F6:cU Sx:=kK 81 [oS 6,oI] oI (s2 lM)
theorem yQ:SX F6:=fq Tryz.f81 [.tmp 4] {fn:=81} (.b .o (.b (.b .o (.u (.lp (JI 5) .o))) .o)) (c1 Hc<|bR)
def HO:cU Sx:=kK 133 [oS 6] oI uS
theorem Hb:SX HO:=fq Tryz.f133 [.tmp 2] {fn:=133} (.b .o (.b .o (.b (.b .o (.u (.lp (J [(3,oI),(4,oI)]) (.b .o (.b (.u (.b .o (.b (.b .o (.j (JI 5) .o)) (.b (.j (JB 46) .o) .o)))) .o))))) .o))) (c1 qU<|c1 yQ<|bR)
def E3:cU Sx:=kK 57 [oS 6] (.mj [oI,oI]) g9
theorem xE:SX E3:=fq Tryz.f57 [.tmp 2,.tmp 3] {fn:=57} (.b .o (.b (.b (.j (JB 28) .o) .o) (.b (.b .o (.j {early:=true} (.u (.lp (JI 4) .o)))) (.b (.b .o (.j {early:=true} (.u (.lp (JI 6) (.b .o (.b (.u (.b .o (.u (.lp (JI 7) .o)))) .o)))))) .o)))) (c1 zD<|c1 Da<|c1 n5<|c1 vI<|c1 Hb<|bR)
def HI:cU Sx:=kO 156 [oD cT] [] [mK (.one (.rw 0 .u8)) [.now (.row 5 .u8)]] uQ
theorem Ha:SX HI:=fq Tryz.f156 [.tmp 2] {fn:=156} (.b .o (.b .o (.b .o (.b (.j {JO [(3,.one (.rw 0 .u8))] [.row 5 .u8] []with kill:=[11]} (.u (.lp {JO [(3,.one (.rw 0 .u8))] [.row 5 .u8] []with kill:=[11]} .o))) (.b .o (.b (.b .o (.u (.lp (JO [(3,.one (.rw 0 .u8)),(5,oI)] [.row 5 .u8] []) .o))) .o)))))) (bR)
def D1:cU Sx:=kK 217 [oD (.int .u32),oI] (oD (.int .u32)) (s2 cD)
theorem wV:SX D1:=fq Tryz.f217 [.tmp 4] {fn:=217} .o (bR)
def B2:cU Sx:=kO 158 [oD cT] [] [mK (.one (.rw 0 (.int .u32))) [.now (.row 206 (.int .u32))]] oz
theorem BJ:SX B2:=fq Tryz.f158 [.tmp 2] {fn:=158} (.b .o (.b .o (.b (.b .o (.j (JO [(3,.one (.rw 0 (.int .u32)))] [.row 206 (.int .u32)] []) (.u (.lp {JO [(3,.one (.rw 0 (.int .u32))),(4,oI)] [.row 206 (.int .u32)] []with pre:=[(3,0,.own 206 (.int .u32))]} .o)))) (.b (.b .o (.u (.lp (JO [(3,.one (.rw 0 (.int .u32))),(5,oI)] [.row 206 (.int .u32)] []) .o))) .o)))) (c1 wV<|bR)
def EW:cU Sx:=kO 157 [oD (.sl (.int .u32)),oD (.sl (.int .u32)),oD (.sl (.int .u32))] [] [mK (.one (.rw 0 (.int .u32))) [.now (.row 206 (.int .u32))]] (s3 rS)
theorem Eh:SX EW:=fq Tryz.f157 [.tmp 6] {fn:=157} (.b .o (.b .o (.b (.b .o (.j {JO [(7,.one (.rw 0 (.int .u32)))] [.row 206 (.int .u32)] []with kill:=[17]} (.u (.lp {JO [(7,.one (.rw 0 (.int .u32))),(8,oI)] [.row 206 (.int .u32)] []with kill:=[17]} .o)))) (.b .o (.b (.b .o (.u (.lp {JO [(13,.one (.rw 0 (.int .u32))),(14,oI)] [.row 206 (.int .u32)] []with pre:=[(13,0,.own 206 (.int .u32))]} .o))) .o))))) (c1 wV<|bR)
def F1:cU Sx:=kK 88 [oD cT,oS 10] (.agg [.cX (.a8 32)]) (s2 jq)
theorem yP:SX F1:=fq Tryz.f88 [.cell 4 24] {fn:=88} (.b .o (.b .o (.b .o (.b (.b .o (.j (J [(5,oD (.sl (.int .u32)))]) (.u (.lp (J [(5,oD (.sl (.int .u32))),(7,oI)]) .o)))) (.b .o (.b (.b .o (.u (.lp (JO [(9,oI)] [.box 24 [.cX (.a8 32)]] [(0,1089)]) .o))) .o)))))) (c1 Ha<|c1 BJ<|c1 Eh<|bR)
def E5:cU Sx:=kO 26 [oD cT,oS 6] [] [mK (.one (.rw 0 .u8)) [.now (.row 5 .u8)]] (s2 mT)
theorem xG:SX E5:=fq Tryz.f26 [.tmp 4] {fn:=26} (.b .o (.b .o (.b (.b .o (.u (.lp {JO [(5,.one (.rw 0 .u8)),(6,oI)] [.row 5 .u8] []with pre:=[(5,0,.own 5 .u8)]} .o))) .o))) (c1 yQ<|bR)
def D5:cU Sx:=kK 84 [oD cT,oS 6,oS 10] (.mj [oI,oI]) (s3 qM)
theorem Db:SX D5:=fq Tryz.f84 [.tmp 6,.tmp 7] {fn:=84} .o (c1 xE<|c1 yP<|c1 xG<|bR)
def E9:cU Sx:=kK 98 [oS 4,oS 4] oI (s2 pa)
theorem Ep:SX E9:=fq Tryz.f98 [.tmp 4] {fn:=98} .o (c1 wW<|c1 n5<|c1 vI<|bR)
def E8:cU Sx:=kO 43 [oD (.sl (.st 4))] [] [mK (oP 0 0) [.now (.box 134 [.cX cI,.rw 1 (.st 12)]),.now (.row 138 (.st 12))]] mU
theorem xH:SX E8:=fq Tryz.f43 [.tmp 2] {fn:=43} (.b .o (.b .o (.b (.b .o (.u (.lp {JO [(3,oP 0 0),(4,oI)] [.box 134 [.cX cI,.rw 1 (.st 12)],.row 138 (.st 12)] [(0,513)]with kill:=[9],pre:=[(3,2,.own 138 (.st 12))]} (.b .o (.b (.u (.b .o (.u (.lp (JO [(3,oP 0 0),(5,oI)] [.box 134 [.cX cI,.rw 1 (.st 12)],.row 138 (.st 12)] [(0,513)]) (.b .o (.b (.u (.b (.j (JB 36) .o) .o)) .o)))))) .o))))) .o))) (c1 Ep<|bR)
def JE:cU Sx:=kK 164 [oI,oD (.sl cI)] oB (s2 wB)
theorem IP:SX JE:=fq Tryz.f164 [.tmp 4] {fn:=164} (.b .o (.b (.b .o (.u (.lp (JI 5) .o))) .o)) (bR)
def Cj:cU Sx:=kO 95 [oP 0 0,oD (.sl cI)] [.box 134 [.cX cI,.rw 1 (.st 12)],.row 138 (.st 12)] [mK (oP 2 0) [.kept,.kept,.now (.box 134 [.cX cI,.rw 3 (.st 12)]),.now (.row 138 (.st 12))]] (s3 nm)
theorem vJ:SX Cj:=fq Tryz.f95 [.tmp 4] {fn:=95} (.b .o (.b .o (.b (.b .o (.u (.lp {JO [(6,oI)] [.box 134 [.cX cI,.rw 1 (.st 12)],.row 138 (.st 12)] [(0,641)]with pre:=[(5,2,.own 138 (.st 12))]} (.b .o (.b (.u (.b (.j (JB 45) .o) .o)) .o))))) .o))) (c1 IP<|bR)
def E7:cU Sx:=kO 228 [oP 0 0,oI] [.box 134 [.cX cI,.rw 1 (.st 12)],.row 138 (.st 12)] [mK (.one (.rw 2 cI)) [.kept,.kept,.now (.row 3 cI)]] (s3 r8)
theorem Eo:SX E7:=fq Tryz.f228 [.tmp 4] {lW:=[301],fn:=228} (.b .o (.b .o (.b .o (.b (.j (JO [] [.arr 4 .bo true] [(0,577)]) (.u (.lp (JO [(6,oB)] [.arr 4 .bo true] [(0,577)]) (.b .o (.u (.b .o (.b .o (.u (.lp (JO [(6,oB),(7,oI)] [.arr 4 .bo true] [(0,577)]) (.b .o (.b (.u (.b .o (.b (.j (JB 51) .o) .o))) .o))))))))))) (.b .o (.b (.b .o (.u (.lp {JO [(9,.one (.rw 0 cI)),(10,oI)] [.row 3 cI] []with pre:=[(9,0,.own 3 cI)]} .o))) .o)))))) (bR)
def JF:cU Sx:=kK 96 [oI,oD (.sl cI)] oB (s2 qB)
theorem wk:SX JF:=fq Tryz.f96 [.tmp 4] {fn:=96} (.b .o (.b (.b .o (.u (.lp (JI 5) .o))) .o)) (bR)
def D6:cU Sx:=kO 178 [oP 0 0,oD (.sl cI)] [.box 134 [.cX cI,.rw 1 (.st 12)],.row 138 (.st 12)] [mK (.one (.rw 2 cI)) [.kept,.kept,.now (.row 3 cI)]] (s3 nS)
theorem wX:SX D6:=fq Tryz.f178 [.tmp 4] {fn:=178} (.b .o (.b .o (.b .o (.b (.b .o (.u (.lp {JO [(6,.one (.rw 0 cI)),(7,oI)] [.row 3 cI] []with pre:=[(6,0,.own 3 cI)]} .o))) .o)))) (c1 vJ<|c1 Eo<|c1 wk<|bR)
def JG:cU Sx:=kK 229 [oI,oD (.sl cI)] oB (s2 zT)
theorem IQ:SX JG:=fq Tryz.f229 [.tmp 4] {fn:=229} (.b .o (.b (.b .o (.u (.lp (JI 5) .o))) .o)) (bR)
def D8:cU Sx:=kK 230 [oD (.sl cI),oI] oI (s2 nU)
theorem Dd:SX D8:=fq Tryz.f230 [.tmp 4] {fn:=230} (.b .o (.b (.b (.j (JB 12) .o) .o) .o)) (bR)
def Gc:cU Sx:=kO 179 [oP 0 0,oD (.sl cI),oD (.sl cI),oD (.sl cI)] [.box 134 [.cX cI,.rw 1 (.st 12)],.row 138 (.st 12)] [mK oI [.kept,.kept]] (fun x=>tJ x.1 x.2.1 x.2.2.1 x.2.2.2.1 x.2.2.2.2)
theorem FK:SX Gc:=fq Tryz.f179 [.tmp 8] {fn:=179} (.b .o (.b .o (.b .o (.b (.b .o (.u (.lp (J [(9,oI),(11,oI)]) (.b .o (.b (.u (.b (.j (JB 43) .o) .o)) .o))))) .o)))) (c1 wX<|c1 IQ<|c1 Dd<|bR)
def D7:cU Sx:=kO 101 [oP 0 0,oD (.sl cI),oD (.sl cI)] [.box 134 [.cX cI,.rw 1 (.st 12)],.row 138 (.st 12)] [mK (.mj [.one (.rw 2 cI),oB]) [.kept,.kept,.now (.row 3 cI)]] (s4 uW)
theorem Dc:SX D7:=fq Tryz.f101 [.tmp 6,.tmp 7] {pre:=[(6,0,.own 3 cI)],fn:=101} (.b .o (.b .o (.b (.u (.lp {JO [(8,.one (.rw 0 cI))] [.row 3 cI] []with pre:=[(8,0,.own 3 cI)]} .o)) .o))) (c1 wX<|c1 FK<|bR)
def Cm:cU Sx:=kO 47 [oD (.sl (.st 4))] [] [mK (.one (.rw 0 cI)) [.now (.row 3 cI)]] nr
theorem vK:SX Cm:=fq Tryz.f47 [.tmp 2] {fn:=47} (.b .o (.b .o (.b (.b .o (.j (JO [(3,.one (.rw 0 cI))] [.row 3 cI] []) (.u (.lp {JO [(3,.one (.rw 0 cI)),(4,oI)] [.row 3 cI] []with pre:=[(3,0,.own 3 cI)]} .o)))) .o))) (c1 xH<|c1 Dc<|bR)
def HR:cU Sx:=kO 222 [oP 0 0,oS 12] [.box 134 [.cX cI,.rw 1 (.st 12)],.row 138 (.st 12)] [mK oB [.kept,.kept]] (s3 uV)
theorem Hd:SX HR:=fq Tryz.f222 [.tmp 4] {fn:=222} (.b .o (.b (.b .o (.u (.lp (JI 5) .o))) .o)) (bR)
def JD:cU Sx:=kO 165 [oP 0 0,oI] [.box 134 [.cX cI,.rw 1 (.st 12)],.row 138 (.st 12)] [mK (.one (.rw 2 cI)) [.kept,.kept,.now (.row 3 cI)]] (s3 wA)
theorem IM:SX JD:=fq Tryz.f165 [.tmp 4] {fn:=165} (.b .o (.b .o (.b (.b .o (.u (.lp {JO [(5,.one (.rw 0 cI)),(6,oI)] [.row 3 cI] []with pre:=[(5,0,.own 3 cI)]} .o))) .o))) (c1 Hd<|bR)
def Gb:cU Sx:=kO 97 [oP 0 0,oI,oD (.sl cI)] [.box 134 [.cX cI,.rw 1 (.st 12)],.row 138 (.st 12)] [mK oB [.kept,.kept]] (s4 tI)
theorem FJ:SX Gb:=fq Tryz.f97 [.tmp 6] {fn:=97} (.b .o (.b .o (.b (.b .o (.u (.lp (JI 8) .o))) .o))) (c1 IM<|c1 wk<|bR)
def Fa:cU Sx:=kO 42 [oP 0 0,oD (.sl cI)] [.box 134 [.cX cI,.rw 1 (.st 12)],.row 138 (.st 12)] [mK (.mj [.one (.rw 2 cI),oB]) [.kept,.kept,.now (.row 3 cI)]] (s3 r9)
theorem Er:SX Fa:=fq Tryz.f42 [.tmp 4,.tmp 5] {pre:=[(4,0,.own 3 cI)],fn:=42} (.b .o (.b .o (.b .o (.u (.lp {JO [(7,.one (.rw 0 cI))] [.row 3 cI] []with pre:=[(7,0,.own 3 cI)]} (.u (.b .o (.b .o (.b (.b .o (.j (J [(8,oI),(9,oB)]) (.u (.lp (J [(8,oI),(9,oB),(10,oI)]) (.b .o (.b (.u (.b (.b (.j (JB 30) .o) .o) .o)) .o)))))) .o))))))))) (c1 vJ<|c1 wk<|c1 FJ<|bR)
def Fb:cU Sx:=kO 48 [oD (.sl (.st 4))] [] [mK (.one (.rw 0 cI)) [.now (.row 3 cI)]] sa
theorem Es:SX Fb:=fq Tryz.f48 [.tmp 2] {fn:=48} (.b .o (.b .o (.b (.b .o (.j {JO [(3,.one (.rw 0 cI))] [.row 3 cI] []with kill:=[8]} (.u (.lp {JO [(3,.one (.rw 0 cI)),(4,oI)] [.row 3 cI] []with kill:=[8]} .o)))) .o))) (c1 vK<|c1 xH<|c1 Er<|bR)
def JC:cU Sx:=kK 155 [oI,oD (.sl cI)] oB (s2 sW)
theorem IL:SX JC:=fq Tryz.f155 [.tmp 4] {fn:=155} (.b .o (.b (.b .o (.u (.lp (JI 5) .o))) .o)) (bR)
def F9:cU Sx:=kK 32 [oS 6,oD (.sl (.st 4))] (oS 6) (s2 tG)
theorem yR:SX F9:=fq Tryz.f32 [.cell 4 27] {fn:=32} .o (bR)
def B4:cU Sx:=kK 87 [oD cT,oS 6,oD (.sl cI)] (oS 6) (s3 oG)
theorem BL:SX B4:=fq Tryz.f87 [.cell 6 27] {fn:=87} (.b .o (.b .o (.b (.b .o (.j (JO [(7,.one (.rw 1 (.st 4)))] [.box 27 [.cX cI,.cX cI,.cX (.a8 32),.cX (.a8 32),.rw 2 (.st 4)],.row 72 (.st 4),.row 72 (.st 4)] [(0,321)]) (.u (.lp {JO [(7,.one (.rw 1 (.st 4))),(8,oI)] [.box 27 [.cX cI,.cX cI,.cX (.a8 32),.cX (.a8 32),.rw 2 (.st 4)],.row 72 (.st 4),.row 72 (.st 4)] [(0,321)]with pre:=[(6,5,.own 72 (.st 4)),(7,0,.own 72 (.st 4))]} (.b .o (.b (.u (.b .o (.b (.b (.j (JB 29) .o) (.j (JO [] [.box 72 [.cX (.st 4)]] [(0,1409)]) .o)) .o))) .o)))))) .o))) (c1 IL<|c1 yR<|bR)
def F8:cU Sx:=kO 36 [oD (.sl (.st 4))] [] [mK (.one (.rw 0 (.st 4))) [.now (.row 72 (.st 4))]] tF
theorem FH:SX F8:=fq Tryz.f36 [.tmp 2] {fn:=36} (.b .o (.b .o (.b (.b .o (.u (.lp {JO [(3,.one (.rw 0 (.st 4))),(4,oI)] [.row 72 (.st 4)] []with pre:=[(3,0,.own 72 (.st 4))]} (.b .o (.b (.u (.b .o (.b (.j (JI 5) (.u (.lp (JI 5) (.b (.b (.j (JB 29) .o) .o) .o)))) .o))) .o))))) .o))) (bR)
def Ck:cU Sx:=kO 37 [oD cT,oD (.sl (.st 4))] [] [mK (.one (.rw 0 (.st 4))) [.now (.row 72 (.st 4))]] (s2 np)
theorem B7:SX Ck:=fq Tryz.f37 [.tmp 4] {fn:=37} (.b .o (.b .o (.b .o (.b (.b .o (.j (JO [(5,.one (.rw 0 (.st 4)))] [.row 72 (.st 4)] []) (.u (.lp {JO [(5,.one (.rw 0 (.st 4))),(7,oI)] [.row 72 (.st 4)] []with pre:=[(5,0,.own 72 (.st 4))]} .o)))) (.b .o (.b .o (.b (.b .o (.j (JO [(9,.one (.rw 0 (.st 4)))] [.row 72 (.st 4)] []) (.u (.lp {JO [(9,.one (.rw 0 (.st 4))),(10,oI)] [.row 72 (.st 4)] []with pre:=[(9,0,.own 72 (.st 4))]} .o)))) .o))))))) (c1 Es<|c1 vK<|c1 BL<|c1 FH<|bR)
def Cl:cU Sx:=kK 30 [oD cT,oS 6,oS 10] (.mj [oS 6,oI,oI]) (s3 p8)
theorem B8:SX Cl:=fq Tryz.f30 [.cell 6 27,.tmp 7,.tmp 8] {fn:=30} .o (c1 Db<|c1 B7<|c1 yR<|bR)
def F7:cU Sx:=kK 14 [oS 6,oS 6] oB (s2 qq)
theorem FG:SX F7:=fq Tryz.f14 [.tmp 4] {fn:=14} .o (c1 zE<|bR)
def xJ:cU Sx:=kK 5 [oD cT,oS 6] oB (s2 nH)
theorem xv:SX xJ:=fq Tryz.f5 [.tmp 4] {fn:=5} (.b .o (.b (.b (.j (JB 28) .o) .o) .o)) (c1 vu<|c1 xC<|c1 ua<|c1 xD<|c1 B8<|c1 FG<|bR)
def E4:cU Sx:=kK 63 [oS 6] oB jU
theorem xF:SX E4:=fq Tryz.f63 [.tmp 2] {fn:=63} .o (c1 xE<|bR)
def E6:cU Sx:=kK 62 [oS 6] oB rY
theorem En:SX E6:=fq Tryz.f62 [.tmp 2] {fn:=62} .o (c1 vu<|c1 xF<|bR)
def Fc:cU Sx:=kK 18 [oS 6] oB sb
theorem Et:SX Fc:=fq Tryz.f18 [.tmp 2] {fn:=18} .o (c1 En<|bR)
def Ga:cU Sx:=kK 19 [oD cT,oS 6] oB (s2 tH)
theorem FI:SX Ga:=fq Tryz.f19 [.tmp 4] {fn:=19} .o (c1 vu<|c1 xF<|bR)
def B3:cU Sx:=kK 38 [oD cT,oD cT,oD (.sl (.st 4))] (oS 6) (s3 oE)
theorem BK:SX B3:=fq Tryz.f38 [.cell 6 27] {fn:=38} .o (c1 xD<|c1 yP<|bR)
def MJ:cU Sx:=kK 15 [oS 6] oB re
theorem C6:SX MJ:=fq Tryz.f15 [.tmp 2] {fn:=15} .o (c1 C5<|bR)
def OQ:cU Sx:=kK 94 [oD cT,oS 6] oB (s2 Bw)
theorem M4:SX OQ:=fq Tryz.f94 [.tmp 4] {fn:=94} .o (c1 C6<|bR)
def MO:cU Sx:=kK 40 [oD cT,oS 6] (oD cT) (s2 zx)
theorem Mq:SX MO:=fq Tryz.f40 [.tmp 4] {pre:=[(4,0,.frz)],parts:=[22],fn:=40} (.b .o (.b .o (.b .o (.b (.b .o (.u (.lp (JO [(18,oI)] [.arr 5 .u8 true] [(0,769)]) .o))) .o)))) (c1 M4<|c1 AN<|bR)
def yY:cU Sx:=kK 7 [oD cT,oS 6] oB (s2 oX)
theorem yO:SX yY:=fq Tryz.f7 [.tmp 4] {fn:=7} (.b .o (.b (.b (.j (JB 21) .o) .o) .o)) (c1 Et<|c1 FI<|c1 xC<|c1 xG<|c1 BK<|c1 ua<|c1 C6<|c1 BX<|c1 Mq<|bR)
end
end Go.Proofs.YtekpafdhgkocaaaGreat
