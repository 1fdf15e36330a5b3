/- Part of the proof. -/
import Derived.Test.YtekpafdhgkocaaaGreatZET
import Derived.Test.YtekpafdhgkocaaaGreatZEG
import Derived.Test.YtekpafdhgkocaaaGreatZEO
namespace Go.Proofs.YtekpafdhgkocaaaGreat
open Go.RowKit G
open E
set_option maxRecDepth 100000
noncomputable section
abbrev cI:Co:= .int .i64
abbrev cT:Co:= .sl .u8
abbrev oD(c:Co):PS:= .one (.fP c)
abbrev oI:=oD cI
abbrev oB:=oD .bo
abbrev oP(i j:Nat):PS:= .one (.ptr i j)
abbrev oA(i:Nat):PS:= .one (.aw i)
abbrev oS(n:Nat):PS:= .agg [.fP (.st n)]
def cA:CS->List Co| .fP c=>[c]| .rw _ c=>[.sl c]|_=>[]
def cB:CS->List Co| .fn _ xs ys=>(xs++ys).flatMap cA|s=>cA s
def cP:PS->List Co| .one s=>cB s| .agg l=>l.flatMap cB|_=>[]
def cQ:PS->List Co| .m8 l=>l.flatMap cP|p=>cP p
def cO:OS->List Co| .box _ l=>l.flatMap cB| .arr _ c _=>[.sl c]| .map _ k v=>[.mp k v]| .eT _ _ k c=>[.mp k (.sl c)]| .qY _ k v _=>[.mp k v]| .loop _ _ l=>l.flatMap fun x=>cQ x.2|_=>[]
def cK:KS->List Co| .now s=>cO s|_=>[]
abbrev lJ(l:List (Nat×PS))(fc:List OS):List Co:=l.flatMap (fun x=>cQ x.2)++fc.flatMap cO
abbrev lC(l:List PS)(fc:List OS):List Co:=l.flatMap cQ++fc.flatMap cO
abbrev lO(p:PS)(fc:List KS):List Co:=cQ p++fc.flatMap cK
def J(l:List (Nat×PS))(h:(Nat.ble l.length 190&&Nat.ble 0 190)=true:=by rfl):JA:={RJ:=l,fc:=[],ls:=lJ l [],FM:=h}
def JO(l:List (Nat×PS))(fc:List OS)(f:List (Nat×Nat))(h:(Nat.ble l.length 190&&Nat.ble fc.length 190)=true:=by rfl):JA:={RJ:=l,fc:=fc,ls:=lJ l fc,fx:=f,FM:=h}
def JI(n:Nat):JA:=J [(n,oI)]
def JB(n:Nat):JA:=J [(n,oB)]
abbrev mO(p:PS):Out:={out:=p,zp:=lO p []}
abbrev mK(p:PS)(fc:List KS)(h:Nat.ble fc.length 30=true:=by rfl):Out:={out:=p,k9:=fc,zp:=lO p fc,FM:=h}
abbrev kK(f:FuncId)(l:List PS)(o:PS)(pB:HT Sx (lC l [])->Option (pF Sx [mO o])):dt Sx:={f:=f,ins:=l,ls:=lC l [],outs:=[mO o],pB:=pB}
abbrev kO(f:FuncId)(l:List PS)(fc:List OS)(os:List Out)(pB:HT Sx (lC l fc)->Option (pF Sx os))(h:(Nat.ble fc.length 30&&os.all fun o=>Nat.ble fc.length o.k9.length)=true:=by rfl):dt Sx:={f:=f,ins:=l,fc:=fc,ls:=lC l fc,outs:=os,pB:=pB,FM:=h}
abbrev s2{a b d:Type}(f:a->b->d)(x:a×b):d:=f x.1 x.2
abbrev s3{a b c d:Type}(f:a->b->c->d)(x:a×b×c):d:=f x.1 x.2.1 x.2.2
abbrev s4{a b c e d:Type}(f:a->b->c->e->d)(x:a×b×c×e):d:=f x.1 x.2.1 x.2.2.1 x.2.2.2
def D9:dt Sx:=kK 27 [oS 4] oB G.pM
theorem xe:SX D9:=fq Tryz.f27 [.tmp 2] {fn:=27} (.b .o (.b (.b .o (.j {early:=true} (.u (.lp (JI 3) .o)))) .o)) (all_nil)
def D7:dt Sx:=kK 129 [] oI (fun _=>G.eY)
theorem xd:SX D7:=fq Tryz.f129 [.tmp 0] {fn:=129} .o (all_nil)
def D8:dt Sx:=kK 196 [oS 3] oI G.kj
theorem pD:SX D8:=fq Tryz.f196 [.tmp 2] {fn:=196} .o (all_nil)
def Bz:dt Sx:=kK 132 [oS 3] (oS 7) G.gj
theorem pW:SX Bz:=fq Tryz.f132 [.cell 2 92] {fn:=132} .o (c1 pD<|all_nil)
def B9:dt Sx:=kK 235 [oS 7] oB G.nw
theorem BI:SX B9:=fq Tryz.f235 [.tmp 2] {fn:=235} .o (c1 xd<|all_nil)
def Bw:dt Sx:=kK 166 [oS 3] (oS 7) G.mF
theorem AK:SX Bw:=fq Tryz.f166 [.cell 2 92] {fn:=166} .o (all_nil)
def Ca:dt Sx:=kK 195 [oS 3] oI G.qt
theorem BJ:SX Ca:=fq Tryz.f195 [.tmp 2] {fn:=195} (.b .o (.b (.b (.j (JB 10) .o) .o) (.b .o (.b .o (.b (.b (.j (JB 32) .o) .o) (.b (.b (.j (JB 45) .o) .o) .o)))))) (c1 pD<|c1 pW<|c1 BI<|c1 AK<|all_nil)
def BA:dt Sx:=kK 130 [oS 4,oS 3] oI (s2 G.po)
theorem AL:SX BA:=fq Tryz.f130 [.tmp 4] {fn:=130} (.b .o (.b .o (.b .o (.b (.b (.j (JB 23) .o) .o) .o)))) (c1 BJ<|c1 pD<|all_nil)
def zP:dt Sx:=kK 131 [oS 7,oS 7] (oS 7) (s2 G.ju)
theorem zD:SX zP:=fq Tryz.f131 [.cell 4 92] {fn:=131} .o (all_nil)
def D6:dt Sx:=kK 215 [oS 7,oI] oB (s2 G.vN)
theorem DD:SX D6:=fq Tryz.f215 [.tmp 4] {fn:=215} .o (all_nil)
def Eb:dt Sx:=kK 152 [oS 3,oI] oB (s2 G.sQ)
theorem DF:SX Eb:=fq Tryz.f152 [.tmp 4] {fn:=152} .o (c1 pW<|c1 DD<|all_nil)
def CN:dt Sx:=kK 81 [oS 4,oI] oI (s2 G.kY)
theorem wm:SX CN:=fq Tryz.f81 [.tmp 4] {fn:=81} (.b .o (.b (.b .o (.u (.lp (JI 5) .o))) .o)) (c1 DF<|all_nil)
def Ea:dt Sx:=kK 133 [oS 4] oI G.sO
theorem DE:SX Ea:=fq Tryz.f133 [.tmp 2] {fn:=133} (.b .o (.b .o (.b (.b .o (.u (.lp (J [(3,oI),(4,oI)]) (.b .o (.b (.u (.b .o (.b (.b .o (.j (JI 5) .o)) (.b (.j (JB 46) .o) .o)))) .o))))) .o))) (c1 pD<|c1 wm<|all_nil)
def Cb:dt Sx:=kK 57 [oS 4] (.m8 [oI,oI]) G.l9
theorem BK:SX Cb:=fq Tryz.f57 [.tmp 2, .tmp 3] {fn:=57} (.b .o (.b (.b (.j (JB 28) .o) .o) (.b (.b .o (.j {early:=true} (.u (.lp (JI 4) .o)))) (.b (.b .o (.j {early:=true} (.u (.lp (JI 6) (.b .o (.b (.u (.b .o (.u (.lp (JI 7) .o)))) .o)))))) .o)))) (c1 xd<|c1 AL<|c1 pW<|c1 zD<|c1 DE<|all_nil)
def Cc:dt Sx:=kK 63 [oS 4] oB G.ny
theorem uT:SX Cc:=fq Tryz.f63 [.tmp 2] {fn:=63} .o (c1 BK<|all_nil)
def Ce:dt Sx:=kK 62 [oS 4] oB G.qw
theorem BM:SX Ce:=fq Tryz.f62 [.tmp 2] {fn:=62} .o (c1 xe<|c1 uT<|all_nil)
def Cf:dt Sx:=kK 18 [oS 4] oB G.qz
theorem BN:SX Cf:=fq Tryz.f18 [.tmp 2] {fn:=18} .o (c1 BM<|all_nil)
def CO:dt Sx:=kK 19 [oD cT,oS 4] oB (s2 G.rK)
theorem Cy:SX CO:=fq Tryz.f19 [.tmp 4] {fn:=19} .o (c1 xe<|c1 uT<|all_nil)
def D0:dt Sx:=kK 74 [oS 3] (.m8 [oS 7,oB]) G.cW
theorem mQ:SX D0:=fq Tryz.f74 [.cell 2 92, .tmp 3] {fn:=74} .o (all_nil)
def JT:dt Sx:=kK 149 [oS 3] (oS 8) G.tF
theorem Ik:SX JT:=fq Tryz.f149 [.cell 2 200] {fn:=149} (.b .o (.b .o (.b (.b .o (.j (JI 3) .o)) .o))) (all_nil)
def D1:dt Sx:=kK 76 [oS 3] (oS 7) G.fG
theorem pC:SX D1:=fq Tryz.f76 [.cell 2 92] {fn:=76} .o (c1 Ik<|all_nil)
def JW:dt Sx:=kK 78 [oS 7] oI G.dB
theorem pa:SX JW:=fq Tryz.f78 [.tmp 2] {fn:=78} .o (all_nil)
def Bv:dt Sx:=kO 148 [oS 7,oP 0 0] [.box 92 [.fP (.st 7)]] [mK oB [.kept]] (s2 G.pn)
theorem AJ:SX Bv:=fq Tryz.f148 [.tmp 3] {fn:=148} .o (c1 pa<|all_nil)
def jr:dt Sx:=kO 214 [oD (.sl (.st 7)), .one (.fn 148 [] [.ptr 0 0])] [.box 92 [.fP (.st 7)]] [mK oI [.kept]] (s2 G.dm)
theorem jl:SX jr:=fq Tryz.f214 [.tmp 4] {fn:=214} (.b .o (.b (.b .o (.u (.lp (JI 8) .o))) .o)) (c1 AJ<|all_nil)
def iK:dt Sx:=kO 147 [oD (.sl (.st 7)), .one (.fn 148 [] [.ptr 0 0])] [.box 92 [.fP (.st 7)]] [mK oB [.kept]] (s2 G.cX)
theorem iB:SX iK:=fq Tryz.f147 [.tmp 4] {fn:=147} .o (c1 jl<|all_nil)
def CM:dt Sx:=kK 75 [oS 7,oD (.sl (.st 7))] oB (s2 G.oO)
theorem Cw:SX CM:=fq Tryz.f75 [.tmp 4] {fn:=75} .o (c1 iB<|all_nil)
def vI:dt Sx:=kO 77 [oD cT] [] [mK (oA 0) [.now (.arr 5 .u8 true)]] G.jQ
theorem vp:SX vI:=fq Tryz.f77 [.tmp 2] {lY:=[22],pre:=[(2,0, .arr 5 .u8)],lits:=[22],fn:=77} .o (all_nil)
def GN:dt Sx:=kK 22 [oD cT,oD (.sl (.st 3))] (.m8 [oD cT,oB]) (s2 G.qD)
theorem zw:SX GN:=fq Tryz.f22 [.tmp 4, .tmp 5] {lY:=[22],pre:=[(4,0, .UN)],parts:=[22],fn:=22} (.b .o (.b .o (.b (.b .o (.j {early:=true} (.u (.lp (JI 21) (.b .o (.b .o (.b (.u (.b .o (.b .o (.b (.j (JB 45) .o) .o)))) .o))))))) (.b .o (.b (.b .o (.u (.lp (JO [(51,oI)] [.arr 5 .u8 true] [(0,1217)]) .o))) .o))))) (c1 mQ<|c1 pC<|c1 Cw<|c1 vp<|c1 pa<|all_nil)
def J0:dt Sx:=kO 79 [oD (.sl (.st 3))] [] [mK (.one (.fn 150 [] [.ptr 0 0])) [.now (.box 25 [.fP (.sl (.st 3))])]] G.wc
theorem BZ:SX J0:=fq Tryz.f79 [.tmp 2] {fn:=79} .o (all_nil)
def D5:dt Sx:=kK 201 [oI,oI,oI] (.m8 [oS 7,oB]) (s3 G.pL)
theorem DC:SX D5:=fq Tryz.f201 [.cell 6 92, .tmp 7] {fn:=201} .o (all_nil)
def D4:dt Sx:=kK 138 [oS 7,oS 7] (.m8 [oS 7,oB]) (s2 G.eW)
theorem th:SX D4:=fq Tryz.f138 [.cell 4 92, .tmp 5] {fn:=138} .o (c1 pa<|c1 DC<|all_nil)
def GP:dt Sx:=kO 151 [oS 7,oP 0 0] [.box 92 [.fP (.st 7)]] [mK oB [.kept]] (s2 G.vl)
theorem FD:SX GP:=fq Tryz.f151 [.tmp 3] {fn:=151} .o (c1 th<|all_nil)
def lh:dt Sx:=kO 214 [oD (.sl (.st 7)), .one (.fn 151 [] [.ptr 0 0])] [.box 92 [.fP (.st 7)]] [mK oI [.kept]] (s2 G.dH)
theorem la:SX lh:=fq Tryz.f214 [.tmp 4] {fn:=214} (.b .o (.b (.b .o (.u (.lp (JI 8) .o))) .o)) (c1 FD<|all_nil)
def j9:dt Sx:=kO 147 [oD (.sl (.st 7)), .one (.fn 151 [] [.ptr 0 0])] [.box 92 [.fP (.st 7)]] [mK oB [.kept]] (s2 G.dx)
theorem jW:SX j9:=fq Tryz.f147 [.tmp 4] {fn:=147} .o (c1 la<|all_nil)
def JZ:dt Sx:=kK 80 [oS 3,oD (.sl (.st 7))] oB (s2 G.zc)
theorem Io:SX JZ:=fq Tryz.f80 [.tmp 4] {fn:=80} .o (c1 mQ<|c1 jW<|all_nil)
def Ed:dt Sx:=kO (E.UK 25002) [.one (.yl 0),oI,oD (.sl (.st 7))] [.loop 25002 .ready [(1,oP 1 0),(2,oP 2 0)], .box 25 [.fP (.sl (.st 3))], .box 3 [.fP cI]] [mK (.one (.tt false)) [.now (.loop 25002 (.done .ret) [(1,oP 1 0),(2,oP 2 0)]), .kept, .now (.box 3 [.fP cI])],mK (.one (.tt true)) [.now (.loop 25002 .ready [(1,oP 1 0),(2,oP 2 0)]), .kept, .kept]] (s4 G.ta)
theorem DJ:SX Ed:=yq 25002 18 [7,8] {fn:=25,rd:=true} (.b .o .o) (c1 Io<|all_nil)
def vH:dt Sx:=kO 150 [.one (.yl 0),oP 1 0] [.loop 25002 .ready [(1,oP 2 0),(2,oP 3 0)], .box 25 [.fP (.sl (.st 3))], .box 25 [.fP (.sl (.st 3))], .box 3 [.fP cI]] [mK (.m8 []) [.now (.loop 25002 (.done .ret) [(1,oP 2 0),(2,oP 3 0)]), .kept, .now (.box 25 [.fP (.sl (.st 3))]), .now (.box 3 [.fP cI])],mK (.m8 []) [.now (.loop 25002 .ready [(1,oP 2 0),(2,oP 3 0)]), .kept, .now (.box 25 [.fP (.sl (.st 3))]), .now (.box 3 [.fP cI])]] (s3 G.mU)
theorem vn:SX vH:=fq Tryz.f150 [] {fn:=150} (.b .o (.b .o (.u (.lp {JO [(3, .one (.rw 3 (.st 7))),(8,oI)] [.loop 25002 .ready [(1,oP 1 0),(2,oP 2 0)], .box 25 [.fP (.sl (.st 3))], .box 3 [.fP cI], .row 92 (.st 7)] [(0,0),(1,2),(2,3)]with pre:=[(3,0, .own 92 (.st 7))]} .o)))) (c1 DJ<|c1 pC<|all_nil)
def H3:dt Sx:=kK 25 [oD (.sl (.st 3))] oI G.n6
theorem wv:SX H3:=fq Tryz.f25 [.cell 2 3] {fn:=25} .o (c1 BZ<|c1 vn<|all_nil)
def JX:dt Sx:=kK 24 [oD (.sl (.st 3))] (oS 5) G.wa
theorem BX:SX JX:=fq Tryz.f24 [.cell 2 30] {fn:=24} .o (c1 wv<|all_nil)
def Fp:dt Sx:=kO (E.UK 65008) [.one (.yl 0),oI,oD (.sl (.st 7))] [.loop 65008 .ready [(3,oP 1 0),(7,oP 2 0)], .box 3 [.fP cI], .box 90 [.rw 3 (.st 7)], .row 92 (.st 7)] [mK (.one (.tt true)) [.now (.loop 65008 .ready [(3,oP 1 0),(7,oP 2 0)]), .kept, .now (.box 90 [.fP (.sl (.st 7))]), .kept]] (s4 G.Ih)
theorem EP:SX Fp:=yq 65008 94 [37,38] {fn:=65,rd:=true} (.b .o .o) (all_nil)
def Ec:dt Sx:=kO (E.UK 65008) [.one (.yl 0),oI,oD (.sl (.st 7))] [.loop 65008 .ready [(3,oP 1 0),(7,oP 2 0)], .box 3 [.fP cI], .box 90 [.fP (.sl (.st 7))]] [mK (.one (.tt true)) [.now (.loop 65008 .ready [(3,oP 1 0),(7,oP 2 0)]), .kept, .now (.box 90 [.fP (.sl (.st 7))])]] (s4 G.Ay)
theorem DH:SX Ec:=yq 65008 94 [37,38] {fn:=65,rd:=true} (.b .o .o) (all_nil)
def wE:dt Sx:=kO 150 [.one (.yl 0),oP 1 0] [.loop 65008 .ready [(3,oP 2 0),(7,oP 3 0)], .box 25 [.fP (.sl (.st 3))], .box 3 [.fP cI], .box 90 [.rw 4 (.st 7)], .row 92 (.st 7)] [mK (.m8 []) [.now (.loop 65008 .ready [(3,oP 2 0),(7,oP 3 0)]), .kept, .now (.box 3 [.fP cI]), .now (.box 90 [.fP (.sl (.st 7))]), .kept]] (s3 G.nH)
theorem wx:SX wE:=fq Tryz.f150 [] {fn:=150} (.b .o (.b .o (.u (.lp {JO [(3, .one (.rw 3 (.st 7))),(8,oI)] [.loop 65008 .ready [(3,oP 1 0),(7,oP 2 0)], .box 3 [.fP cI], .box 90 [.fP (.sl (.st 7))], .row 92 (.st 7)] [(0,0),(1,2),(2,3)]with pre:=[(3,0, .own 92 (.st 7))]} .o)))) (c1 EP<|c1 pC<|c1 DH<|all_nil)
def GM:dt Sx:=kK 193 [oS 7] oB G.lI
theorem FC:SX GM:=fq Tryz.f193 [.tmp 2] {fn:=193} .o (all_nil)
def CQ:dt Sx:=kK 177 [oD (.int .u64)] oI G.zq
theorem Cz:SX CQ:=fq Tryz.f177 [.tmp 2] {fn:=177} (.b .o (.b (.b .o (.j (J [(0,oD (.int .u64)),(2,oI)]) .o)) (.b (.b .o (.j (J [(0,oD (.int .u64)),(2,oI)]) .o)) (.b (.b .o (.j (J [(0,oD (.int .u64)),(2,oI)]) .o)) .o)))) (all_nil)
def Fo:dt Sx:=kK 100 [oD (.int .u64)] oI G.jP
theorem qJ:SX Fo:=fq Tryz.f100 [.tmp 2] {fn:=100} .o (c1 Cz<|all_nil)
def Fl:dt Sx:=kK 146 [oI] oB G.ij
theorem yc:SX Fl:=fq Tryz.f146 [.tmp 2] {fn:=146} .o (all_nil)
def CI:dt Sx:=kK 73 [oI,oI] oI (s2 G.kX)
theorem wi:SX CI:=fq Tryz.f73 [.tmp 4] {fn:=73} .o (c1 yc<|all_nil)
def H2:dt Sx:=kK 199 [oS 9,oS 9] oI (s2 G.eC)
theorem mn:SX H2:=fq Tryz.f199 [.tmp 4] {fn:=199} .o (c1 wi<|all_nil)
def kb:dt Sx:={f:=256,ins:=[oA 0,oI,oI, .one (.fn 199 [] [])],fc:=[.arr 255 (.st 9) true],ls:=[(.sl (.st 9)),cI,cI],pm:=[2,0,1],bk:=[1,2,0],outs:=[mK (.m8 []) [.now (.arr 255 (.st 9) true)]],pB:=fun x=>G.cc x.1 x.2.1 x.2.2}
theorem jY:SX kb:=fq Tryz.f256 [] {lY:=[251],fn:=256} (.b .o (.u (.lp (JO [(8,oI)] [.arr 255 (.st 9) true] [(0,0)]) (.b .o (.b (.u (.b .o (.u (.lp (JO [(9,oI)] [.arr 255 (.st 9) true] [(0,0)]) (.b (.b (.j (JB 34) .o) .o) .o))))) .o))))) (c1 mn<|all_nil)
def l7:dt Sx:={f:=281,ins:=[oA 0,oI,oI,oI, .one (.fn 199 [] [])],fc:=[.arr 255 (.st 9) true],ls:=[(.sl (.st 9)),cI,cI,cI],pm:=[3,0,1,2],bk:=[1,2,3,0],outs:=[mK (.m8 []) [.now (.arr 255 (.st 9) true)]],pB:=fun x=>G.dR x.1 x.2.1 x.2.2.1 x.2.2.2}
theorem lW:SX l7:=fq Tryz.f281 [] {lY:=[251],fn:=281} (.b .o (.u (.lp (JO [(10,oI)] [.arr 255 (.st 9) true] [(0,0)]) (.u (.b .o (.b .o (.b (.b (.j (JB 40) .o) (.j (JI 11) .o)) .o))))))) (c1 mn<|all_nil)
def lZ:dt Sx:={f:=257,ins:=[oA 0,oI,oI, .one (.fn 199 [] [])],fc:=[.arr 255 (.st 9) true],ls:=[(.sl (.st 9)),cI,cI],pm:=[2,0,1],bk:=[1,2,0],outs:=[mK (.m8 []) [.now (.arr 255 (.st 9) true)]],pB:=fun x=>G.fQ x.1 x.2.1 x.2.2}
theorem lV:SX lZ:=fq Tryz.f257 [] {lY:=[251],fn:=257} (.b .o (.b .o (.b .o (.b (.b .o (.j (JO [] [.arr 255 (.st 9) true] [(0,0)]) (.u (.lp (JO [(11,oI)] [.arr 255 (.st 9) true] [(0,0)]) .o)))) (.b .o (.u (.lp (JO [(12,oI)] [.arr 255 (.st 9) true] [(0,0)]) .o))))))) (c1 lW<|all_nil)
def xG:dt Sx:=kK 224 [oI] (oD (.int .u64)) G.fp
theorem mV:SX xG:=fq Tryz.f224 [.tmp 2] {fn:=224} .o (c1 qJ<|all_nil)
def yx:dt Sx:=kO 225 [oP 0 0] [.box 277 [.fP (.int .u64)]] [mK (oD (.int .u64)) [.now (.box 277 [.fP (.int .u64)])]] G.gH
theorem nU:SX yx:=fq Tryz.f225 [.tmp 2] {fn:=225} .o (all_nil)
def ka:dt Sx:={f:=258,ins:=[oA 0,oI,oI, .one (.fn 199 [] [])],fc:=[.arr 255 (.st 9) true],ls:=[(.sl (.st 9)),cI,cI],pm:=[2,0,1],bk:=[1,2,0],outs:=[mK (.m8 []) [.now (.arr 255 (.st 9) true)]],pB:=fun x=>G.fe x.1 x.2.1 x.2.2}
theorem jX:SX ka:=fq Tryz.f258 [] {lY:=[251],fn:=258} (.b .o (.b .o (.b (.b .o (.b .o (.b .o (.u (.lp (JO [(11,oI)] [.arr 255 (.st 9) true, .box 277 [.fP (.int .u64)]] [(0,0),(1,769)]) (.b .o (.b (.u (.b .o (.b (.b .o (.j (JI 12) .o)) .o))) .o))))))) .o))) (c1 mV<|c1 nU<|all_nil)
def my:dt Sx:={f:=289,ins:=[oA 0,oI,oI,oP 1 0, .one (.fn 199 [] [])],fc:=[.arr 255 (.st 9) true, .box 3 [.fP cI]],ls:=[(.sl (.st 9)),cI,cI,cI],pm:=[2,0,1,3],bk:=[1,2,0,3],outs:=[mK (.m8 [oI,oI]) [.kept, .now (.box 3 [.fP cI])]],pB:=fun x=>G.cY x.1 x.2.1 x.2.2.1 x.2.2.2}
theorem mo:SX my:=fq Tryz.f289 [.tmp 10, .tmp 11] {fn:=289} .o (c1 mn<|all_nil)
def mw:dt Sx:={f:=283,ins:=[oA 0,oI,oI,oI,oP 1 0, .one (.fn 199 [] [])],fc:=[.arr 255 (.st 9) true, .box 3 [.fP cI]],ls:=[(.sl (.st 9)),cI,cI,cI,cI],pm:=[3,0,1,2,4],bk:=[1,2,3,0,4],outs:=[mK oI [.kept, .now (.box 3 [.fP cI])]],pB:=fun x=>G.dZ x.1 x.2.1 x.2.2.1 x.2.2.2.1 x.2.2.2.2}
theorem fO:SX mw:=fq Tryz.f283 [.tmp 12] {fn:=283} .o (c1 mo<|all_nil)
def jL:dt Sx:={f:=282,ins:=[oA 0,oI,oP 1 0, .one (.fn 199 [] [])],fc:=[.arr 255 (.st 9) true, .box 3 [.fP cI]],ls:=[(.sl (.st 9)),cI,cI],pm:=[1,0,2],bk:=[1,0,2],outs:=[mK oI [.kept, .now (.box 3 [.fP cI])]],pB:=fun x=>G.cx x.1 x.2.1 x.2.2}
theorem jE:SX jL:=fq Tryz.f282 [.tmp 8] {fn:=282} .o (c1 fO<|all_nil)
def kW:dt Sx:={f:=259,ins:=[oA 0,oI,oI, .one (.fn 199 [] [])],fc:=[.arr 255 (.st 9) true],ls:=[(.sl (.st 9)),cI,cI],pm:=[2,0,1],bk:=[1,2,0],outs:=[mK (.m8 [oI,oI]) [.kept]],pB:=fun x=>G.fz x.1 x.2.1 x.2.2}
theorem kP:SX kW:=fq Tryz.f259 [.tmp 8, .tmp 9] {fn:=259} (.b .o (.b .o (.b .o (.b .o (.b .o (.b .o (.b (.b .o (.j (JO [(13,oI)] [.box 3 [.fP cI]] [(0,641)]) (.b (.b (.b .o (.j (JO [(12,oI),(13,oI),(14,oI)] [.box 3 [.fP cI]] [(0,641)]) .o)) .o) .o))) .o))))))) (c1 jE<|c1 fO<|all_nil)
def kI:dt Sx:={f:=260,ins:=[oA 0,oI,oI, .one (.fn 199 [] [])],fc:=[.arr 255 (.st 9) true],ls:=[(.sl (.st 9)),cI,cI],pm:=[2,0,1],bk:=[1,2,0],outs:=[mK (.m8 []) [.now (.arr 255 (.st 9) true)]],pB:=fun x=>G.fm x.1 x.2.1 x.2.2}
theorem kC:SX kI:=fq Tryz.f260 [] {lY:=[251],fn:=260} (.b .o (.b .o (.u (.lp (JO [(8,oI),(9,oI)] [.arr 255 (.st 9) true] [(0,0)]) .o)))) (all_nil)
def hU:dt Sx:={f:=261,ins:=[oA 0,oI,oI, .one (.fn 199 [] [])],fc:=[.arr 255 (.st 9) true],ls:=[(.sl (.st 9)),cI,cI],pm:=[2,0,1],bk:=[1,2,0],outs:=[mK oB [.now (.arr 255 (.st 9) true)]],pB:=fun x=>G.ek x.1 x.2.1 x.2.2}
theorem gZ:SX hU:=fq Tryz.f261 [.tmp 8] {lY:=[251],fn:=261} (.b .o (.b .o (.b (.b .o (.u (.lp (JO [(9,oI),(10,oI)] [.arr 255 (.st 9) true] [(0,0)]) (.b .o (.b (.u (.b (.j (JI 9) (.u (.lp (JI 9) (.b (.b (.j (JB 36) .o) .o) .o)))) (.b .o (.b .o (.b .o (.b (.b .o (.j (JO [] [.arr 255 (.st 9) true] [(0,0)]) (.b (.b .o (.u (.lp (JO [(11,oI)] [.arr 255 (.st 9) true] [(0,0)]) .o))) .o))) (.b .o (.b (.b .o (.u (.lp (JO [(12,oI)] [.arr 255 (.st 9) true] [(0,0)]) .o))) .o)))))))) .o))))) .o))) (c1 mn<|all_nil)
def jM:dt Sx:={f:=262,ins:=[oA 0,oI,oI,oI, .one (.fn 199 [] [])],fc:=[.arr 255 (.st 9) true],ls:=[(.sl (.st 9)),cI,cI,cI],pm:=[3,0,1,2],bk:=[1,2,3,0],outs:=[mK oI [.now (.arr 255 (.st 9) true)]],pB:=fun x=>G.eS x.1 x.2.1 x.2.2.1 x.2.2.2}
theorem jF:SX jM:=fq Tryz.f262 [.tmp 10] {lY:=[251],fn:=262} (.b .o (.b .o (.b .o (.b (.u (.lp (JO [(11,oI),(12,oI)] [.arr 255 (.st 9) true] [(0,0)]) (.u (.b (.j (JI 11) (.u (.lp (JI 11) (.b (.b (.j (JB 47) .o) .o) .o)))) (.b (.j (JI 12) (.u (.lp (JI 12) (.b (.b (.j (JB 65) .o) .o) .o)))) .o))))) .o)))) (c1 mn<|all_nil)
def lH:dt Sx:={f:=263,ins:=[oA 0,oI,oI,oI, .one (.fn 199 [] [])],fc:=[.arr 255 (.st 9) true],ls:=[(.sl (.st 9)),cI,cI,cI],pm:=[3,0,1,2],bk:=[1,2,3,0],outs:=[mK (.m8 [oI,oB]) [.now (.arr 255 (.st 9) true)]],pB:=fun x=>G.fL x.1 x.2.1 x.2.2.1 x.2.2.2}
theorem lG:SX lH:=fq Tryz.f263 [.tmp 10, .tmp 11] {lY:=[251],fn:=263} (.b .o (.b .o (.b .o (.b (.j (JI 12) (.u (.lp (JI 12) (.b (.b (.j (JB 47) .o) .o) .o)))) (.b (.j (JI 13) (.u (.lp (JI 13) (.b (.b (.j (JB 66) .o) .o) .o)))) (.b .o (.b .o (.b .o (.b .o (.b (.j (JO [(13,oI)] [.arr 255 (.st 9) true] [(0,0)]) (.u (.lp (JO [(12,oI),(13,oI)] [.arr 255 (.st 9) true] [(0,0)]) (.u (.b (.j (JI 12) (.u (.lp (JI 12) (.b (.b (.j (JB 120) .o) .o) .o)))) (.b (.j (JI 13) (.u (.lp (JI 13) (.b (.b (.j (JB 139) .o) .o) .o)))) .o)))))) .o)))))))))) (c1 mn<|all_nil)
def fD(g:((List G.bO)×Int×Int×Int)->Option (List G.bO)):dt Sx:={f:=236,ins:=[oA 0,oI,oI,oI, .one (.fn 199 [] [])],fc:=[.arr 255 (.st 9) true],ls:=[(.sl (.st 9)),cI,cI,cI],pm:=[3,0,1,2],bk:=[1,2,3,0],outs:=[{out:= .m8 [],k9:=[.now (.arr 255 (.st 9) true)],zp:=[(.sl (.st 9))]}],pB:=g}
def mf:dt Sx:={f:=236,ins:=[oA 0,oI,oI,oI, .one (.fn 199 [] [])],fc:=[.arr 255 (.st 9) true],ls:=[(.sl (.st 9)),cI,cI,cI],pm:=[3,0,1,2],bk:=[1,2,3,0],outs:=[mK (.m8 []) [.now (.arr 255 (.st 9) true)]],pB:=fun x=>G.cv x.1 x.2.1 x.2.2.1 x.2.2.2}
theorem mb:SX mf:=Em (c:=fD fun _=>none) (F:=G.cN) fun g hg=>fq (c:=fD (G.cN g)) Tryz.f236 [] {fn:=236} (.b .o (.b .o (.u (.lp (JO [(1,oI),(2,oI),(3,oI),(10,oB),(11,oB)] [.arr 255 (.st 9) true] [(0,0)]) (.u (.b .o (.b .o (.b .o (.b (.b .o (.j (JO [(3,oI)] [.arr 255 (.st 9) true] [(0,0)]) .o)) (.b .o (.b (.b .o (.j (JO [(13,oI),(14,oI)] [.arr 255 (.st 9) true] [(0,0)]) .o)) (.b (.b (.j (JB 75) .o) (.j {JO [] [.arr 255 (.st 9) true] [(0,0)]with early:=true} .o)) (.b (.b (.j (JB 97) .o) .o) .o))))))))))))) (c1 hg<|c1 jY<|c1 lV<|c1 jX<|c1 kP<|c1 kC<|c1 gZ<|c1 mn<|c1 jF<|c1 lG<|all_nil)
def js:dt Sx:=kO 198 [oA 0, .one (.fn 199 [] [])] [.arr 255 (.st 9) true] [mK (.m8 []) [.now (.arr 255 (.st 9) true)]] G.bU
theorem jm:SX js:=fq Tryz.f198 [] {lY:=[251],fn:=198} .o (c1 qJ<|c1 mb<|all_nil)
def Lw:dt Sx:=kO 136 [oD (.sl (.st 7))] [] [mO (.one (.km)),mK (oP 0 0) [.now (.box 253 [.aw 1]), .now (.arr 255 (.st 9) true)]] G.tM
theorem DG:SX Lw:=fq Tryz.f136 [.tmp 2] {lY:=[251],fn:=136} (.b .o (.b .o (.b (.b .o (.j {JO [] [.box 253 [.aw 1], .arr 255 (.st 9) true] [(0,385)]with early:=true} (.u (.lp {JO [(11,oI)] [.box 253 [.aw 1], .arr 255 (.st 9) true] [(0,385)]with pre:=[(3,1, .arr 255 (.st 9))]} (.b .o (.b .o (.b (.u (.b .o (.b (.b (.j (JB 23) .o) .o) .o))) .o))))))) (.b .o (.b (.b .o (.u (.lp (JI 47) (.b .o (.b .o (.b (.u (.b .o (.b (.j (JB 73) .o) .o))) .o)))))) .o))))) (c1 FC<|c1 jm<|c1 pa<|all_nil)
def uV:dt Sx:=kO 200 [.one (.km),oS 7] [] [mK (.one (.fn 237 [] [.ptr 0 0, .ptr 1 0])) [.now (.box 187 [.km]), .now (.box 92 [.fP (.st 7)])]] G.qN
theorem uL:SX uV:=fq Tryz.f200 [.tmp 4] {fn:=200} .o (all_nil)
def yr:dt Sx:=kK 239 [.one (.km)] oI (fun _=>G.pN)
theorem so:SX yr:=fq Tryz.f239 [.tmp 2] {fn:=239} .o (all_nil)
def sx:dt Sx:=kO 264 [oI, .one (.fn 265 [] [.ptr 0 0, .ptr 1 0])] [.box 187 [.km], .box 3 [.fP cI]] [mK oI [.kept, .kept]] (s2 G.mY)
theorem rY:SX sx:=fq Tryz.f264 [.tmp 4] {fn:=264} (.b .o (.b .o (.b (.u (.lp (J [(5,oI),(6,oI)]) .o)) .o))) (all_nil)
def xj:dt Sx:=kK 238 [.one (.km),oI] oI G.sR
theorem wJ:SX xj:=fq Tryz.f238 [.tmp 4] {fn:=238} .o (c1 so<|c1 rY<|all_nil)
def oG:dt Sx:=kO 237 [.one (.yl 0),oP 1 0,oP 2 0] [.loop 137003 .ready [(5,oP 3 0)], .box 187 [.km], .box 92 [.fP (.st 7)], .box 56 [.rw 4 cI], .row 3 cI] [mK (.m8 []) [.kept, .kept, .kept, .kept, .kept]] (s2 G.jI)
theorem oz:SX oG:=fq Tryz.f237 [] {fn:=237} (.b .o (.u (.lp (JI 4) .o))) (c1 wJ<|c1 so<|all_nil)
def xE:dt Sx:=kO 137 [.one (.km),oS 7] [] [mK (.one (.rw 0 cI)) [.now (.row 3 cI)]] G.pc
theorem ry:SX xE:=fq Tryz.f137 [.tmp 4] {fn:=137} (.b .o (.b .o (.b (.b .o (.u (.z [(5,1, .own 3 cI)] .o))) .o))) (c1 uL<|c1 oz<|all_nil)
def yu:dt Sx:=kO 200 [oP 0 0,oS 7] [.box 253 [.aw 1], .arr 255 (.st 9) true] [mK (.one (.fn 237 [] [.ptr 2 0, .ptr 3 0])) [.kept, .kept, .now (.box 187 [.ptr 0 0]), .now (.box 92 [.fP (.st 7)])]] (s2 G.pO)
theorem yg:SX yu:=fq Tryz.f200 [.tmp 4] {fn:=200} .o (all_nil)
def CP:dt Sx:=kO 239 [oP 0 0] [.box 253 [.aw 1], .arr 255 (.st 9) true] [mK oI [.kept, .kept]] G.oQ
theorem wq:SX CP:=fq Tryz.f239 [.tmp 2] {fn:=239} .o (all_nil)
def yt:dt Sx:={f:=265,ins:=[oI,oP 0 0,oP 1 0],fc:=[.box 187 [.ptr 2 0], .box 3 [.fP cI], .box 253 [.aw 3], .arr 255 (.st 9) true],ls:=[cI,(.sl (.st 9)),cI],pm:=[0,2,1],bk:=[0,2,1],outs:=[mK oB [.kept, .kept, .kept, .kept]],pB:=fun x=>G.mI x.1 x.2.1 x.2.2}
theorem yf:SX yt:=fq Tryz.f265 [.tmp 4] {fn:=265} .o (c1 pa<|all_nil)
def rQ:dt Sx:={f:=264,ins:=[oI, .one (.fn 265 [] [.ptr 0 0, .ptr 1 0])],fc:=[.box 187 [.ptr 2 0], .box 3 [.fP cI], .box 253 [.aw 3], .arr 255 (.st 9) true],ls:=[cI,(.sl (.st 9)),cI],pm:=[0,2,1],bk:=[0,2,1],outs:=[mK oI [.kept, .kept, .kept, .kept]],pB:=fun x=>G.ed x.1 x.2.1 x.2.2}
theorem rC:SX rQ:=fq Tryz.f264 [.tmp 4] {fn:=264} (.b .o (.b .o (.b (.u (.lp (J [(5,oI),(6,oI)]) .o)) .o))) (c1 yf<|all_nil)
def BB:dt Sx:=kO 238 [oP 0 0,oI] [.box 253 [.aw 1], .arr 255 (.st 9) true] [mK oI [.kept, .kept]] (s2 G.kT)
theorem AM:SX BB:=fq Tryz.f238 [.tmp 4] {fn:=238} .o (c1 wq<|c1 rC<|all_nil)
def zB:dt Sx:=kO (E.UK 137003) [.one (.yl 0),oI,oS 7] [.loop 137003 .ready [(5,oP 1 0)], .box 56 [.rw 2 cI], .row 3 cI] [mK (.one (.tt true)) [.now (.loop 137003 .ready [(5,oP 1 0)]), .now (.box 56 [.rw 3 cI]), .gone, .now (.row 3 cI)]] (s3 G.qW)
theorem zi:SX zB:=yq 137003 17 [10,11] {fn:=137,rd:=true} (.b .o .o) (all_nil)
def n9:dt Sx:={f:=237,ins:=[.one (.yl 0),oP 1 0,oP 2 0],fc:=[.loop 137003 .ready [(5,oP 3 0)], .box 187 [.ptr 4 0], .box 92 [.fP (.st 7)], .box 56 [.rw 5 cI], .box 253 [.aw 6], .row 3 cI, .arr 255 (.st 9) true],ls:=[(.sl (.st 9)),(.st 7),(.sl cI)],pm:=[2,0,1],bk:=[1,2,0],outs:=[mK (.m8 []) [.now (.loop 137003 .ready [(5,oP 3 0)]), .kept, .kept, .now (.box 56 [.rw 7 cI]), .kept, .gone, .kept, .now (.row 3 cI)]],pB:=fun x=>G.cw x.1 x.2.1 x.2.2}
theorem nY:SX n9:=fq Tryz.f237 [] {fn:=237} (.b .o (.u (.lp {JO [(4,oI)] [.loop 137003 .ready [(5,oP 1 0)], .box 56 [.rw 2 cI], .row 3 cI] [(0,0),(1,3)]with gone:=[5]} (.b .o (.b (.u (.b .o (.b (.j {JO [(45,oB)] [.loop 137003 .ready [(5,oP 1 0)], .box 56 [.rw 2 cI], .row 3 cI] [(0,0),(1,3)]with gone:=[578]} .o) .o))) .o))))) (c1 AM<|c1 wq<|c1 th<|c1 zi<|all_nil)
def Cg:dt Sx:=kO 137 [oP 0 0,oS 7] [.box 253 [.aw 1], .arr 255 (.st 9) true] [mK (.one (.rw 2 cI)) [.kept, .kept, .now (.row 3 cI)]] (s2 G.gF)
theorem uU:SX Cg:=fq Tryz.f137 [.tmp 4] {fn:=137} (.b .o (.b .o (.b (.b .o (.u (.z [(5,1, .own 3 cI)] .o))) .o))) (c1 yg<|c1 nY<|all_nil)
def JY:dt Sx:=kK 65 [oD (.sl (.st 3)),oI] (oD (.sl (.st 7))) (s2 G.zb)
theorem Im:SX JY:=fq Tryz.f65 [.tmp 4] {lY:=[90],pre:=[(4,0, .UN)],fn:=65} (.b .o (.b (.b (.j (JB 24) .o) .o) (.b .o (.b .o (.b .o (.b (.b .o (.u (.z [(7,1, .own 92 (.st 7))] .o))) (.b .o (.b .o (.b (.b .o (.u (.lp {JO [(10,oA 0),(49,oI)] [.arr 92 (.st 7) true] []with pre:=[(10,0, .arr 92 (.st 7))]} (.b .o (.b .o (.b (.u (.b .o (.b .o (.b (.b .o (.b (.j (JB 76) .o) .o)) .o)))) .o)))))) .o))))))))) (c1 mQ<|c1 BZ<|c1 wx<|c1 DG<|c1 ry<|c1 th<|c1 pa<|c1 uU<|all_nil)
def qQ:dt Sx:=kK 64 [oD (.sl (.st 7)),oD (.sl (.st 7))] oB (s2 G.eP)
theorem qK:SX qQ:=fq Tryz.f64 [.tmp 4] {fn:=64} (.b .o (.b .o (.b (.b .o (.u (.lp (JI 13) .o))) .o))) (all_nil)
def B8:dt Sx:=kK 20 [] oB (fun _=>G.nv)
theorem BH:SX B8:=fq Tryz.f20 [.tmp 0] {fn:=20} .o (c1 zw<|c1 BX<|c1 Im<|c1 qK<|c1 wv<|all_nil)
def H0:dt Sx:=kO 181 [oI] [] [mK (oP 0 0) [.now (.box 243 [.fP cI, .ni 1, .ni 2, .ni 3]), .now (.map 240 (.st 6) .bo), .now (.eT 241 3 cI cI), .now (.eT 241 3 cI cI)]] G.sd
theorem AH:SX H0:=fq Tryz.f181 [.tmp 2] {fn:=181} (.b .o (.b (.b (.j (JB 8) .o) .o) .o)) (all_nil)
def B6:dt Sx:=kO 182 [oD (.sl (.st 3))] [] [mO (.one (.km)),mK (oP 0 0) [.now (.box 253 [.aw 1]), .now (.arr 255 (.st 9) true)]] G.qk
theorem BF:SX B6:=fq Tryz.f182 [.tmp 2] {fn:=182} (.b .o (.b .o (.b (.b .o (.j (JO [(3, .one (.rw 0 (.st 7)))] [.row 92 (.st 7)] []) (.u (.lp {JO [(3, .one (.rw 0 (.st 7))),(8,oI)] [.row 92 (.st 7)] []with pre:=[(3,0, .own 92 (.st 7))]} .o)))) .o))) (c1 pC<|c1 DG<|all_nil)
def Bt:dt Sx:=kO 242 [oP 0 0] [.box 243 [.fP cI, .ni 1, .ni 2, .ni 3], .map 240 (.st 6) .bo, .eT 241 3 cI cI, .eT 241 3 cI cI] [mK oI [.kept, .kept, .kept, .kept]] (s4 G.gg)
theorem pU:SX Bt:=fq Tryz.f242 [.tmp 2] {fn:=242} .o (all_nil)
def yp:dt Sx:=kO 231 [oP 0 0,oI] [.box 243 [.fP cI, .ni 1, .ni 2, .ni 3], .map 240 (.st 6) .bo, .eT 241 3 cI cI, .eT 241 3 cI cI] [mK oB [.kept, .kept, .kept, .kept]] (fun x=>G.kg x.1 x.2.1 x.2.2.1 x.2.2.2.1 x.2.2.2.2)
theorem ye:SX yp:=fq Tryz.f231 [.tmp 4] {fn:=231} .o (c1 pU<|all_nil)
def Bs:dt Sx:=kO 183 [oP 0 0,oD (.sl (.st 6))] [.box 243 [.fP cI, .ni 1, .ni 2, .ni 3], .map 240 (.st 6) .bo, .eT 241 3 cI cI, .eT 241 3 cI cI] [mK oI [.kept, .now (.map 240 (.st 6) .bo), .now (.eT 241 3 cI cI), .now (.eT 241 3 cI cI)]] (fun x=>G.kQ x.1 x.2.1 x.2.2.1 x.2.2.2.1 x.2.2.2.2)
theorem uq:SX Bs:=fq Tryz.f183 [.tmp 4] {takes:=[241],fn:=183} (.b .o (.b .o (.b (.b .o (.u (.lp (JO [(5,oI),(10,oI)] [.map 240 (.st 6) .bo, .eT 241 3 cI cI, .eT 241 3 cI cI] [(0,1),(1,2),(2,3)]) (.b .o (.b .o (.b (.u (.b .o (.b (.b (.j (JB 40) .o) .o) .o))) .o)))))) .o))) (c1 ye<|all_nil)
def D2:dt Sx:=kO 104 [oD (.sl (.st 3))] [] [mK (oP 0 0) [.now (.box 243 [.fP cI, .ni 1, .ni 2, .ni 3]), .now (.map 240 (.st 6) .bo), .now (.eT 241 3 cI cI), .now (.eT 241 3 cI cI)]] G.pI
theorem DA:SX D2:=fq Tryz.f104 [.tmp 2] {fn:=104} (.b .o (.b .o (.b .o (.b (.b .o (.u (.lp (JO [(18,oI)] [.map 240 (.st 6) .bo, .eT 241 3 cI cI, .eT 241 3 cI cI] [(0,450),(1,451),(2,452)]) (.b .o (.b .o (.b (.u (.b .o (.b .o (.b .o (.b (.b .o (.u (.lp (JO [(33,oI)] [.map 240 (.st 6) .bo, .eT 241 3 cI cI, .eT 241 3 cI cI] [(0,450),(1,451),(2,452)]) .o))) .o))))) .o)))))) .o)))) (c1 AH<|c1 BF<|c1 mQ<|c1 ry<|c1 uq<|c1 uU<|all_nil)
def ux:dt Sx:=kO 141 [.agg [.fP (.sl (.st 3)), .ptr 0 0]] [.box 243 [.fP cI, .ni 1, .ni 2, .ni 3], .map 240 (.st 6) .bo, .eT 241 3 cI cI, .eT 241 3 cI cI] [mK (.one (.rw 4 cI)) [.kept, .kept, .kept, .kept, .now (.row 3 cI)]] (fun x=>G.fH x.1 x.2.1 x.2.2.1 x.2.2.2.1 x.2.2.2.2)
theorem n8:SX ux:=fq Tryz.f141 [.tmp 2] {fn:=141} (.b .o (.b .o (.b (.b .o (.u (.lp {JO [(3, .one (.rw 0 cI)),(9,oI)] [.row 3 cI] []with pre:=[(3,0, .own 3 cI)]} .o))) .o))) (all_nil)
def yw:dt Sx:=kK 204 [oD (.sl cI),oI] oI (s2 G.pQ)
theorem yh:SX yw:=fq Tryz.f204 [.tmp 4] {fn:=204} (.b .o (.b (.b .o (.u (.lp (JI 8) .o))) .o)) (all_nil)
def wH:dt Sx:=kK 142 [oD (.sl cI),oI] oB (s2 G.dv)
theorem fN:SX wH:=fq Tryz.f142 [.tmp 4] {fn:=142} .o (c1 yh<|all_nil)
def xF:dt Sx:=kO 185 [oD (.sl cI)] [] [mK (.one (.fn 233 [] [.ptr 0 0])) [.now (.box 56 [.fP (.sl cI)])]] G.jf
theorem rA:SX xF:=fq Tryz.f185 [.tmp 2] {fn:=185} .o (all_nil)
def ug:dt Sx:=kO (E.UK 255002) [.one (.yl 0),oI] [.loop 255002 .ready [(2,oP 1 0)], .box 56 [.aw 2], .arr 3 cI true] [mK (.one (.tt true)) [.now (.loop 255002 .ready [(2,oP 1 0)]), .now (.box 56 [.aw 3]), .gone, .now (.arr 3 cI true)]] (s2 G.fy)
theorem nP:SX ug:=yq 255002 13 [7] {fn:=255,rd:=true} (.b .o .o) (all_nil)
def me:dt Sx:=kO 233 [.one (.yl 0),oP 1 0] [.loop 255002 .ready [(2,oP 2 0)], .box 56 [.fP (.sl cI)], .box 56 [.aw 3], .arr 3 cI true] [mK (.m8 []) [.now (.loop 255002 .ready [(2,oP 2 0)]), .kept, .now (.box 56 [.aw 4]), .gone, .now (.arr 3 cI true)]] (s2 G.dU)
theorem ma:SX me:=fq Tryz.f233 [] {fn:=233} (.b .o (.u (.lp {JO [(7,oI)] [.loop 255002 .ready [(2,oP 1 0)], .box 56 [.aw 2], .arr 3 cI true] [(0,0),(1,2)]with gone:=[3]} .o))) (c1 nP<|all_nil)
def kF:dt Sx:=kO 255 [.one (.fk), .one (.fn 233 [] [.ptr 0 0])] [.box 56 [.fP (.sl cI)]] [mK (oA 1) [.kept, .now (.arr 3 cI true)]] G.dz
theorem kz:SX kF:=fq Tryz.f255 [.tmp 4] {lY:=[56],fn:=255} (.b .o (.b (.b .o (.u (.z [(2,1, .arr 3 cI)] .o))) .o)) (c1 ma<|all_nil)
def nj:dt Sx:=kO 232 [.one (.fn 233 [] [.ptr 0 0])] [.box 56 [.fP (.sl cI)]] [mK (oA 1) [.kept, .now (.arr 3 cI true)]] G.dE
theorem mZ:SX nj:=fq Tryz.f232 [.tmp 2] {lY:=[56],fn:=232} .o (c1 kz<|all_nil)
def GF:dt Sx:=kK 173 [oI,oI] oB (s2 G.db)
theorem iU:SX GF:=fq Tryz.f173 [.tmp 4] {fn:=173} .o (c1 yc<|all_nil)
def qS:dt Sx:={f:=167,ins:=[oA 0,oI,oI],fc:=[.arr 3 cI true],ls:=[(.sl cI),cI,cI],pm:=[2,0,1],bk:=[1,2,0],outs:=[mK (.m8 []) [.now (.arr 3 cI true)]],pB:=fun x=>G.ml x.1 x.2.1 x.2.2}
theorem qM:SX qS:=fq Tryz.f167 [] {lY:=[56],fn:=167} (.b .o (.u (.lp (JO [(6,oI)] [.arr 3 cI true] [(0,0)]) (.b .o (.b (.u (.b .o (.u (.lp (JO [(7,oI)] [.arr 3 cI true] [(0,0)]) (.b (.b (.j (JB 30) .o) .o) .o))))) .o))))) (c1 iU<|all_nil)
def tv:dt Sx:={f:=223,ins:=[oA 0,oI,oI,oI],fc:=[.arr 3 cI true],ls:=[(.sl cI),cI,cI,cI],pm:=[3,0,1,2],bk:=[1,2,3,0],outs:=[mK (.m8 []) [.now (.arr 3 cI true)]],pB:=fun x=>G.ku x.1 x.2.1 x.2.2.1 x.2.2.2}
theorem tk:SX tv:=fq Tryz.f223 [] {lY:=[56],fn:=223} (.b .o (.u (.lp (JO [(8,oI)] [.arr 3 cI true] [(0,0)]) (.u (.b .o (.b .o (.b (.b (.j (JB 36) .o) (.j (JI 9) .o)) .o))))))) (c1 iU<|all_nil)
def tu:dt Sx:={f:=168,ins:=[oA 0,oI,oI],fc:=[.arr 3 cI true],ls:=[(.sl cI),cI,cI],pm:=[2,0,1],bk:=[1,2,0],outs:=[mK (.m8 []) [.now (.arr 3 cI true)]],pB:=fun x=>G.n7 x.1 x.2.1 x.2.2}
theorem tj:SX tu:=fq Tryz.f168 [] {lY:=[56],fn:=168} (.b .o (.b .o (.b .o (.b (.b .o (.j (JO [] [.arr 3 cI true] [(0,0)]) (.u (.lp (JO [(9,oI)] [.arr 3 cI true] [(0,0)]) .o)))) (.b .o (.u (.lp (JO [(10,oI)] [.arr 3 cI true] [(0,0)]) .o))))))) (c1 tk<|all_nil)
def qR:dt Sx:={f:=169,ins:=[oA 0,oI,oI],fc:=[.arr 3 cI true],ls:=[(.sl cI),cI,cI],pm:=[2,0,1],bk:=[1,2,0],outs:=[mK (.m8 []) [.now (.arr 3 cI true)]],pB:=fun x=>G.mj x.1 x.2.1 x.2.2}
theorem qL:SX qR:=fq Tryz.f169 [] {lY:=[56],fn:=169} (.b .o (.b .o (.b (.b .o (.b .o (.b .o (.u (.lp (JO [(9,oI)] [.arr 3 cI true, .box 277 [.fP (.int .u64)]] [(0,0),(1,769)]) (.b .o (.b (.u (.b .o (.b (.b .o (.j (JI 10) .o)) .o))) .o))))))) .o))) (c1 mV<|c1 nU<|all_nil)
def ui:dt Sx:={f:=254,ins:=[oA 0,oI,oI,oP 1 0],fc:=[.arr 3 cI true, .box 3 [.fP cI]],ls:=[(.sl cI),cI,cI,cI],pm:=[2,0,1,3],bk:=[1,2,0,3],outs:=[mK (.m8 [oI,oI]) [.kept, .now (.box 3 [.fP cI])]],pB:=fun x=>G.gK x.1 x.2.1 x.2.2.1 x.2.2.2}
theorem tX:SX ui:=fq Tryz.f254 [.tmp 8, .tmp 9] {fn:=254} .o (c1 iU<|all_nil)
def uh:dt Sx:={f:=227,ins:=[oA 0,oI,oI,oI,oP 1 0],fc:=[.arr 3 cI true, .box 3 [.fP cI]],ls:=[(.sl cI),cI,cI,cI,cI],pm:=[3,0,1,2,4],bk:=[1,2,3,0,4],outs:=[mK oI [.kept, .now (.box 3 [.fP cI])]],pB:=fun x=>G.lS x.1 x.2.1 x.2.2.1 x.2.2.2.1 x.2.2.2.2}
theorem nS:SX uh:=fq Tryz.f227 [.tmp 10] {fn:=227} .o (c1 tX<|all_nil)
def qi:dt Sx:={f:=226,ins:=[oA 0,oI,oP 1 0],fc:=[.arr 3 cI true, .box 3 [.fP cI]],ls:=[(.sl cI),cI,cI],pm:=[1,0,2],bk:=[1,0,2],outs:=[mK oI [.kept, .now (.box 3 [.fP cI])]],pB:=fun x=>G.eJ x.1 x.2.1 x.2.2}
theorem pX:SX qi:=fq Tryz.f226 [.tmp 6] {fn:=226} .o (c1 nS<|all_nil)
def rP:dt Sx:={f:=170,ins:=[oA 0,oI,oI],fc:=[.arr 3 cI true],ls:=[(.sl cI),cI,cI],pm:=[2,0,1],bk:=[1,2,0],outs:=[mK (.m8 [oI,oI]) [.kept]],pB:=fun x=>G.mP x.1 x.2.1 x.2.2}
theorem rB:SX rP:=fq Tryz.f170 [.tmp 6, .tmp 7] {fn:=170} (.b .o (.b .o (.b .o (.b .o (.b .o (.b .o (.b (.b .o (.j (JO [(11,oI)] [.box 3 [.fP cI]] [(0,641)]) (.b (.b (.b .o (.j (JO [(10,oI),(11,oI),(12,oI)] [.box 3 [.fP cI]] [(0,641)]) .o)) .o) .o))) .o))))))) (c1 pX<|c1 nS<|all_nil)
def rl:dt Sx:={f:=171,ins:=[oA 0,oI,oI],fc:=[.arr 3 cI true],ls:=[(.sl cI),cI,cI],pm:=[2,0,1],bk:=[1,2,0],outs:=[mK (.m8 []) [.now (.arr 3 cI true)]],pB:=fun x=>G.mz x.1 x.2.1 x.2.2}
theorem q9:SX rl:=fq Tryz.f171 [] {lY:=[56],fn:=171} (.b .o (.b .o (.u (.lp (JO [(6,oI),(7,oI)] [.arr 3 cI true] [(0,0)]) .o)))) (all_nil)
def nX:dt Sx:={f:=172,ins:=[oA 0,oI,oI],fc:=[.arr 3 cI true],ls:=[(.sl cI),cI,cI],pm:=[2,0,1],bk:=[1,2,0],outs:=[mK oB [.now (.arr 3 cI true)]],pB:=fun x=>G.iR x.1 x.2.1 x.2.2}
theorem nT:SX nX:=fq Tryz.f172 [.tmp 6] {lY:=[56],fn:=172} (.b .o (.b .o (.b (.b .o (.u (.lp (JO [(7,oI),(8,oI)] [.arr 3 cI true] [(0,0)]) (.b .o (.b (.u (.b (.j (JI 7) (.u (.lp (JI 7) (.b (.b (.j (JB 32) .o) .o) .o)))) (.b .o (.b .o (.b .o (.b (.b .o (.j (JO [] [.arr 3 cI true] [(0,0)]) (.b (.b .o (.u (.lp (JO [(9,oI)] [.arr 3 cI true] [(0,0)]) .o))) .o))) (.b .o (.b (.b .o (.u (.lp (JO [(10,oI)] [.arr 3 cI true] [(0,0)]) .o))) .o)))))))) .o))))) .o))) (c1 iU<|all_nil)
def qj:dt Sx:={f:=174,ins:=[oA 0,oI,oI,oI],fc:=[.arr 3 cI true],ls:=[(.sl cI),cI,cI,cI],pm:=[3,0,1,2],bk:=[1,2,3,0],outs:=[mK oI [.now (.arr 3 cI true)]],pB:=fun x=>G.lX x.1 x.2.1 x.2.2.1 x.2.2.2}
theorem pY:SX qj:=fq Tryz.f174 [.tmp 8] {lY:=[56],fn:=174} (.b .o (.b .o (.b .o (.b (.u (.lp (JO [(9,oI),(10,oI)] [.arr 3 cI true] [(0,0)]) (.u (.b (.j (JI 9) (.u (.lp (JI 9) (.b (.b (.j (JB 43) .o) .o) .o)))) (.b (.j (JI 10) (.u (.lp (JI 10) (.b (.b (.j (JB 59) .o) .o) .o)))) .o))))) .o)))) (c1 iU<|all_nil)
def sL:dt Sx:={f:=175,ins:=[oA 0,oI,oI,oI],fc:=[.arr 3 cI true],ls:=[(.sl cI),cI,cI,cI],pm:=[3,0,1,2],bk:=[1,2,3,0],outs:=[mK (.m8 [oI,oB]) [.now (.arr 3 cI true)]],pB:=fun x=>G.nN x.1 x.2.1 x.2.2.1 x.2.2.2}
theorem sF:SX sL:=fq Tryz.f175 [.tmp 8, .tmp 9] {lY:=[56],fn:=175} (.b .o (.b .o (.b .o (.b (.j (JI 10) (.u (.lp (JI 10) (.b (.b (.j (JB 43) .o) .o) .o)))) (.b (.j (JI 11) (.u (.lp (JI 11) (.b (.b (.j (JB 60) .o) .o) .o)))) (.b .o (.b .o (.b .o (.b .o (.b (.j (JO [(11,oI)] [.arr 3 cI true] [(0,0)]) (.u (.lp (JO [(10,oI),(11,oI)] [.arr 3 cI true] [(0,0)]) (.u (.b (.j (JI 10) (.u (.lp (JI 10) (.b (.b (.j (JB 112) .o) .o) .o)))) (.b (.j (JI 11) (.u (.lp (JI 11) (.b (.b (.j (JB 129) .o) .o) .o)))) .o)))))) .o)))))))))) (c1 iU<|all_nil)
def mW(g:((List Int)×Int×Int×Int)->Option (List Int)):dt Sx:={f:=99,ins:=[oA 0,oI,oI,oI],fc:=[.arr 3 cI true],ls:=[(.sl cI),cI,cI,cI],pm:=[3,0,1,2],bk:=[1,2,3,0],outs:=[{out:= .m8 [],k9:=[.now (.arr 3 cI true)],zp:=[(.sl cI)]}],pB:=g}
def tD:dt Sx:={f:=99,ins:=[oA 0,oI,oI,oI],fc:=[.arr 3 cI true],ls:=[(.sl cI),cI,cI,cI],pm:=[3,0,1,2],bk:=[1,2,3,0],outs:=[mK (.m8 []) [.now (.arr 3 cI true)]],pB:=fun x=>G.oZ x.1 x.2.1 x.2.2.1 x.2.2.2}
theorem tz:SX tD:=Em (c:=mW fun _=>none) (F:=G.jB) fun g hg=>fq (c:=mW (G.jB g)) Tryz.f99 [] {fn:=99} (.b .o (.b .o (.u (.lp (JO [(1,oI),(2,oI),(3,oI),(8,oB),(9,oB)] [.arr 3 cI true] [(0,0)]) (.u (.b .o (.b .o (.b .o (.b (.b .o (.j (JO [(3,oI)] [.arr 3 cI true] [(0,0)]) .o)) (.b .o (.b (.b .o (.j (JO [(11,oI),(12,oI)] [.arr 3 cI true] [(0,0)]) .o)) (.b (.b (.j (JB 68) .o) (.j {JO [] [.arr 3 cI true] [(0,0)]with early:=true} .o)) (.b (.b (.j (JB 87) .o) .o) .o))))))))))))) (c1 hg<|c1 qM<|c1 tj<|c1 qL<|c1 rB<|c1 q9<|c1 nT<|c1 iU<|c1 pY<|c1 sF<|all_nil)
def xn:dt Sx:=kO 45 [oA 0] [.arr 3 cI true] [mK (.m8 []) [.now (.arr 3 cI true)]] G.iy
theorem qP:SX xn:=fq Tryz.f45 [] {fn:=45} .o (c1 qJ<|c1 tz<|all_nil)
def nW:dt Sx:=kO 184 [.one (.fn 233 [] [.ptr 0 0])] [.box 56 [.fP (.sl cI)]] [mK (oA 1) [.kept, .now (.arr 3 cI true)]] G.cV
theorem gJ:SX nW:=fq Tryz.f184 [.tmp 2] {lY:=[56],fn:=184} .o (c1 mZ<|c1 qP<|all_nil)
def B7:dt Sx:=kO 243 [oP 0 0,oI] [.box 243 [.fP cI, .ni 1, .ni 2, .ni 3], .map 240 (.st 6) .bo, .eT 241 3 cI cI, .eT 241 3 cI cI] [mK (oD (.sl cI)) [.kept, .kept, .kept, .kept]] (fun x=>G.ql x.1 x.2.1 x.2.2.1 x.2.2.2.1 x.2.2.2.2)
theorem BG:SX B7:=fq Tryz.f243 [.tmp 4] {pre:=[(4,0, .UN)],fn:=243} .o (c1 rA<|c1 gJ<|all_nil)
def Bu:dt Sx:=kO 105 [oP 0 0,oI] [.box 243 [.fP cI, .ni 1, .ni 2, .ni 3], .map 240 (.st 6) .bo, .eT 241 3 cI cI, .eT 241 3 cI cI] [mK (oD (.sl cI)) [.kept, .kept, .kept, .kept]] (fun x=>G.pj x.1 x.2.1 x.2.2.1 x.2.2.2.1 x.2.2.2.2)
theorem AG:SX Bu:=fq Tryz.f105 [.tmp 4] {pre:=[(4,0, .UN)],fn:=105} .o (c1 rA<|c1 gJ<|all_nil)
def Ch:dt Sx:=kK 272 [oI] oB G.qI
theorem BO:SX Ch:=fq Tryz.f272 [.tmp 2] {fn:=272} .o (all_nil)
def sK:dt Sx:={f:=244,ins:=[oA 0,oI],fc:=[.arr 3 cI false],ls:=[(.sl cI),cI],pm:=[1,0],bk:=[1,0],outs:=[mK (.m8 [oI,oB]) [.kept]],pB:=fun x=>G.fS x.1 x.2}
theorem sE:SX sK:=fq Tryz.f244 [.tmp 4, .tmp 5] {fn:=244} (.b .o (.b .o (.b .o (.b (.j (JI 7) (.u (.lp (J [(7,oI),(8,oI)]) .o))) .o)))) (c1 iU<|c1 BO<|all_nil)
def vJ:dt Sx:=kO 245 [oA 0,oI, .one (.rw 1 cI)] [.arr 3 cI false, .row 3 cI] [mK (oA 2) [.gone, .gone, .now (.arr 3 cI false)]] (s3 G.jR)
theorem vq:Sound Tryz.prog KT vJ:=Ko XM rfl rfl (by kernel_rfl) (enters_of Tryz.func245 (by kernel_rfl) (by kernel_rfl))
def H5:dt Sx:=kO 203 [oP 0 0,oD (.sl cI)] [.box 243 [.fP cI, .ni 1, .ni 2, .ni 3], .map 240 (.st 6) .bo, .eT 241 3 cI cI, .eT 241 3 cI cI] [mK (.m8 [oD (.sl cI), .one (.ni 4)]) [.kept, .kept, .kept, .kept, .now (.map 143 cI cI)]] (fun x=>G.uu x.1 x.2.1 x.2.2.1 x.2.2.2.1 x.2.2.2.2)
theorem AN:SX H5:=fq Tryz.f203 [.tmp 4, .tmp 5] {lY:=[56],pre:=[(4,0, .UN)],fn:=203} (.b .o (.b .o (.b (.b .o (.j (JO [] [.map 143 cI cI] [(0,385)]) (.u (.lp (JO [(28,oI)] [.map 143 cI cI] [(0,385)]) .o)))) (.b (.b .o (.j {JO [(6, .one (.ni 0))] [.map 143 cI cI] [(0,385)]with kill:=[25,38,39]} (.u (.mr (JO [] [.qY 143 cI cI 1, .Fa cI 0] [(0,385),(1,1025)]) 1025 (.u (.b .o (.b .o (.u (.lp (JO [(48,oI)] [.qY 143 cI cI 100] [(0,385),(100,1025)]) .o))))))))) (.b .o (.b (.b .o (.j (JO [(14,oA 0)] [.arr 3 cI true] []) (.u (.lp {JO [(14,oA 0),(66,oI)] [.arr 3 cI true] []with pre:=[(14,0, .arr 3 cI)]} (.b .o (.b .o (.b (.u (.b .o (.b .o (.b (.j (JB 79) .o) .o)))) .o))))))) (.b (.j (JO [(13,oA 1)] [.map 143 cI cI, .arr 3 cI true] [(0,385)]) (.u (.lp {JO [(13,oA 1),(14,oA 2)] [.map 143 cI cI, .arr 3 cI true, .arr 3 cI false] [(0,385)]with pre:=[(13,0, .arr 3 cI)]} (.b .o (.u (.b .o (.b .o (.b .o (.b .o (.b .o (.u (.lp {JO [(14,oA 1),(103,oI)] [.map 143 cI cI, .arr 3 cI false] [(0,385)]with kill:=[92]} .o)))))))))))) .o))))))) (c1 pU<|c1 fN<|c1 BG<|c1 AG<|c1 sE<|c1 vq<|all_nil)
def sb:NC Sx:={f:=284,ins:=[oP 0 0,oD (.sl cI)],fc:=[.box 243 [.fP cI, .ni 1, .ni 2, .ni 3], .map 240 (.st 6) .bo, .eT 241 3 cI cI, .eT 241 3 cI cI],ls:=[(.sl cI),cI,(.mp (.st 6) .bo),(.mp cI (.sl cI)),(.mp cI (.sl cI))],out:={out:=oP 4 0,k9:=[.kept, .now (.map 240 (.st 6) .bo), .kept, .kept, .now (.box 243 [.fP cI, .ni 5, .ni 6, .ni 7]), .now (.map 240 (.st 6) .bo), .now (.eT 241 3 cI cI), .now (.eT 241 3 cI cI)],zp:=[(.mp (.st 6) .bo),cI,(.mp (.st 6) .bo),(.mp cI (.sl cI)),(.mp cI (.sl cI))]},Fw:=fun γ k x=>G.mq x.1 x.2.1 x.2.2.1 x.2.2.2.1 x.2.2.2.2 k}
theorem xx:WQ sb:=nq Tryz.f284 [.tmp 4] {fn:=284} (.b .o (.b .o (.b .o (.b (.b .o (.u (.mr (JO [] [.qY 240 (.st 6) .bo 4, .map 240 (.st 6) .bo, .eT 241 3 cI cI, .eT 241 3 cI cI, .Fa (.st 6) 0] [(0,1),(1,706),(2,707),(3,708),(4,1089)]) 1089 (.u (.b .o (.b (.j (JB 34) .o) .o)))))) .o)))) (c1 AH<|c1 fN<|c1 uq<|all_nil)
def xm:dt Sx:=kO 290 [oD (.sl cI)] [] [mK (oA 0) [.now (.arr 3 cI true)]] G.lP
theorem wL:SX xm:=fq Tryz.f290 [.tmp 2] {lY:=[56],pre:=[(2,0, .arr 3 cI)],lits:=[56],fn:=290} .o (all_nil)
def sv:dt Sx:=kO 291 [.one (.ni 0)] [.map 323 cI .bo] [mK (.one (.fn 294 [] [.ptr 1 0])) [.kept, .now (.box 323 [.ni 0])]] G.iY
theorem rV:SX sv:=fq Tryz.f291 [.tmp 2] {fn:=291} .o (all_nil)
def ew:NC Sx:={f:=294,ins:=[.one (.yl 0),oP 1 0],fc:=[.loop 255002 .ready [(2,oP 2 0)], .box 323 [.ni 3], .box 56 [.aw 4], .map 323 cI .bo, .arr 3 cI true],ls:=[(.sl cI),(.mp cI .bo)],pm:=[1,0],bk:=[1,0],out:={out:= .m8 [],k9:=[.now (.loop 255002 .ready [(2,oP 2 0)]), .kept, .now (.box 56 [.aw 5]), .now (.map 323 cI .bo), .gone, .now (.arr 3 cI true)],zp:=[(.mp cI .bo),(.sl cI)]},Fw:=fun γ k x=>G.c9 x.1 x.2 k}
theorem iM:WQ ew:=nq Tryz.f294 [] {fn:=294} (.b .o (.u (.mr {JO [] [.loop 255002 .ready [(2,oP 1 0)], .box 56 [.aw 4], .qY 323 cI .bo 3, .Fa cI 2, .arr 3 cI true] [(0,0),(1,2),(2,3),(3,321)]with gone:=[4]} 321 .o))) (c1 nP<|all_nil)
def dQ:NC Sx:={f:=255,ins:=[.one (.fk), .one (.fn 294 [] [.ptr 0 0])],fc:=[.box 323 [.ni 1], .map 323 cI .bo],ls:=[(.mp cI .bo)],out:={out:=oA 2,k9:=[.kept, .now (.map 323 cI .bo), .now (.arr 3 cI true)],zp:=[(.mp cI .bo),(.sl cI)]},Fw:=fun γ k x=>G.cM x k}
theorem gD:WQ dQ:=nq Tryz.f255 [.tmp 4] {lY:=[56],fn:=255,nd:=[ew]} (.b .o (.b (.b .o (.u (.z [(2,1, .arr 3 cI)] .o))) .o)) (all_nil) (hΨ:=all_cons iM<|all_nil)
def eV:NC Sx:={f:=232,ins:=[.one (.fn 294 [] [.ptr 0 0])],fc:=[.box 323 [.ni 1], .map 323 cI .bo],ls:=[(.mp cI .bo)],out:={out:=oA 2,k9:=[.kept, .now (.map 323 cI .bo), .now (.arr 3 cI true)],zp:=[(.mp cI .bo),(.sl cI)]},Fw:=fun γ k x=>G.dD x k}
theorem kL:WQ eV:=nq Tryz.f232 [.tmp 2] {lY:=[56],fn:=232,nd:=[dQ]} .o (all_nil) (hΨ:=all_cons gD<|all_nil)
def lj:dt Sx:=kO 184 [.one (.fn 294 [] [.ptr 0 0])] [.box 323 [.ni 1], .map 323 cI .bo] [mK (oA 2) [.kept, .now (.map 323 cI .bo), .now (.arr 3 cI true)]] G.cL
theorem lb:SX lj:=fq Tryz.f184 [.tmp 2] {lY:=[56],fn:=184,nd:=[eV]} .o (c1 qP<|all_nil) (hΨ:=all_cons kL<|all_nil)
def zy:dt Sx:=kO 285 [oP 0 0,oI] [.box 243 [.fP cI, .ni 1, .ni 2, .ni 3], .map 240 (.st 6) .bo, .eT 241 3 cI cI, .eT 241 3 cI cI] [mK (oD (.sl cI)) [.kept, .kept, .kept, .kept]] (fun x=>G.m9 x.1 x.2.1 x.2.2.1 x.2.2.2.1 x.2.2.2.2)
theorem zg:SX zy:=fq Tryz.f285 [.tmp 4] {lY:=[56],pre:=[(4,0, .UN)],fn:=285} (.b .o (.u (.b .o (.b .o (.b .o (.b .o (.b (.j {JO [] [.map 323 cI .bo] [(0,449)]with kill:=[17]} (.u (.lp {JO [(6,oA 1)] [.map 323 cI .bo, .arr 3 cI true] [(0,449)]with kill:=[17]} .o))) .o))))))) (c1 wL<|c1 rV<|c1 lb<|all_nil)
def H4:dt Sx:=kO 266 [oP 0 0,oD (.sl cI)] [.box 243 [.fP cI, .ni 1, .ni 2, .ni 3], .map 240 (.st 6) .bo, .eT 241 3 cI cI, .eT 241 3 cI cI] [mK (oA 4) [.kept, .now (.map 240 (.st 6) .bo), .kept, .kept, .now (.arr 3 cI true)]] (fun x=>G.xf x.1 x.2.1 x.2.2.1 x.2.2.2.1 x.2.2.2.2)
theorem HM:SX H4:=fq Tryz.f266 [.tmp 4] {lY:=[56],fn:=266,nd:=[sb]} (.b .o (.b .o (.b .o (.b .o (.b (.b .o (.u (.lp {JO [(8,oA 0),(23,oI)] [.arr 3 cI true] []with pre:=[(8,0, .arr 3 cI)]} (.b .o (.b .o (.b (.u (.b .o (.b .o (.b (.j (JB 39) .o) .o)))) .o)))))) .o))))) (c1 AN<|c1 pU<|c1 zg<|c1 fN<|all_nil) (hΨ:=all_cons xx<|all_nil)
def GJ:dt Sx:=kO 268 [oI,oP 0 0] [.box 56 [.fP (.sl cI)]] [mK oB [.kept]] (s2 G.uZ)
theorem zu:SX GJ:=fq Tryz.f268 [.tmp 3] {fn:=268} .o (c1 fN<|all_nil)
def oc:dt Sx:=kO 286 [oA 0, .one (.fn 268 [] [.ptr 1 0])] [.arr 3 cI true, .box 56 [.fP (.sl cI)]] [mK oI [.kept, .kept]] (s2 G.fo)
theorem nZ:SX oc:=fq Tryz.f286 [.tmp 4] {fn:=286} (.b .o (.b (.b .o (.u (.lp (JI 8) .o))) .o)) (c1 zu<|all_nil)
def nV:dt Sx:=kO 267 [oA 0, .one (.fn 268 [] [.ptr 1 0])] [.arr 3 cI true, .box 56 [.fP (.sl cI)]] [mK (oD (.sl cI)) [.gone, .kept]] (s2 G.dI)
theorem nQ:SX nV:=fq Tryz.f267 [.tmp 4] {lY:=[56],pre:=[(4,0, .UN)],parts:=[56],fn:=267} (.b .o (.b .o (.b .o (.b (.b .o (.j (JO [(5,oI)] [.arr 3 cI true] [(0,0)]) (.u (.lp (JO [(5,oI),(6,oI)] [.arr 3 cI true] [(0,0)]) .o)))) .o)))) (c1 nZ<|c1 zu<|all_nil)
def GL:dt Sx:=kK 271 [oD (.sl cI),oI] oI (s2 G.ve)
theorem FB:SX GL:=fq Tryz.f271 [.tmp 4] {fn:=271} (.b .o (.b (.b (.j (JB 12) .o) .o) .o)) (all_nil)
def GK:dt Sx:=kO 270 [oI,oP 0 0] [.box 56 [.fP (.sl cI)]] [mK oI [.kept]] (s2 G.u9)
theorem Fz:SX GK:=fq Tryz.f270 [.tmp 3] {fn:=270} .o (c1 FB<|all_nil)
def qh:dt Sx:=kO 269 [oD (.sl cI), .one (.fn 270 [] [.ptr 0 0])] [.box 56 [.fP (.sl cI)]] [mK (.m8 [oI,oB]) [.kept]] (s2 G.eI)
theorem pV:SX qh:=fq Tryz.f269 [.tmp 4, .tmp 5] {fn:=269} (.b .o (.b .o (.b (.b .o (.j (JI 6) (.u (.lp (J [(6,oI),(11,oI)]) (.b .o (.b .o (.b (.u (.b .o (.b (.j (JB 26) .o) .o))) .o))))))) .o))) (c1 Fz<|all_nil)
def JV:dt Sx:=kO 241 [oP 0 0,oD (.sl cI),oD (.sl cI),oD (.sl cI)] [.box 243 [.fP cI, .ni 1, .ni 2, .ni 3], .map 240 (.st 6) .bo, .eT 241 3 cI cI, .eT 241 3 cI cI] [mK (.m8 [oI,oB,oB]) [.kept, .now (.map 240 (.st 6) .bo), .kept, .kept]] (fun x=>G.vM x.1 x.2.1 x.2.2.1 x.2.2.2.1 x.2.2.2.2.1 x.2.2.2.2.2.1 x.2.2.2.2.2.2)
theorem BW:SX JV:=fq Tryz.f241 [.tmp 8, .tmp 9, .tmp 10] {fn:=241} .o (c1 HM<|c1 nQ<|c1 pV<|all_nil)
def D3:dt Sx:={f:=240,ins:=[oP 0 0,oP 1 0,oP 2 0,oP 3 0],fc:=[.box 94 [.ptr 4 0], .box 56 [.fP (.sl cI)], .box 56 [.fk], .box 56 [.fP (.sl cI)], .box 243 [.fP cI, .ni 5, .ni 6, .ni 7], .map 240 (.st 6) .bo, .eT 241 3 cI cI, .eT 241 3 cI cI],ls:=[cI,(.sl cI),(.sl cI),(.mp (.st 6) .bo),(.mp cI (.sl cI)),(.mp cI (.sl cI))],pm:=[2,0,1,3,4,5],bk:=[1,2,0,3,4,5],outs:=[mK (.m8 [oB,oB]) [.kept, .kept, .now (.box 56 [.rw 8 cI]), .kept, .kept, .now (.map 240 (.st 6) .bo), .kept, .kept, .now (.row 3 cI)]],pB:=fun x=>G.vL x.1 x.2.1 x.2.2.1 x.2.2.2.1 x.2.2.2.2.1 x.2.2.2.2.2}
theorem DB:SX D3:=fq Tryz.f240 [.tmp 4, .tmp 5] {fn:=240} (.b .o (.b .o (.b (.b .o (.j {JO [] [.box 56 [.rw 1 cI], .row 3 cI] [(0,2)]with pre:=[(2,1, .own 3 cI)]} .o)) .o))) (c1 BW<|all_nil)
def CL:dt Sx:={f:=240,ins:=[oP 0 0,oP 1 0,oP 2 0,oP 3 0],fc:=[.box 94 [.ptr 4 0], .box 56 [.fP (.sl cI)], .box 56 [.rw 5 cI], .box 56 [.fP (.sl cI)], .box 243 [.fP cI, .ni 6, .ni 7, .ni 8], .row 3 cI, .map 240 (.st 6) .bo, .eT 241 3 cI cI, .eT 241 3 cI cI],ls:=[cI,(.sl cI),(.sl cI),(.sl cI),(.mp (.st 6) .bo),(.mp cI (.sl cI)),(.mp cI (.sl cI))],pm:=[3,0,1,2,4,5,6],bk:=[1,2,3,0,4,5,6],outs:=[mK (.m8 [oB,oB]) [.kept, .kept, .now (.box 56 [.rw 9 cI]), .kept, .kept, .gone, .now (.map 240 (.st 6) .bo), .kept, .kept, .now (.row 3 cI)]],pB:=fun x=>G.uC x.1 x.2.1 x.2.2.1 x.2.2.2.1 x.2.2.2.2.1 x.2.2.2.2.2.1 x.2.2.2.2.2.2}
theorem Cv:SX CL:=fq Tryz.f240 [.tmp 4, .tmp 5] {fn:=240} (.b .o (.b .o (.b (.b .o (.j {JO [] [.box 56 [.rw 1 cI], .row 3 cI] [(0,2)]with gone:=[5],kill:=[2,12]} .o)) .o))) (c1 BW<|all_nil)
def GI:dt Sx:=kO 202 [oP 0 0,oD (.sl cI),oD (.sl cI)] [.box 243 [.fP cI, .ni 1, .ni 2, .ni 3], .map 240 (.st 6) .bo, .eT 241 3 cI cI, .eT 241 3 cI cI] [mK (.m8 [.one (.rw 4 cI),oB]) [.now (.box 243 [.fP cI, .ni 1, .ni 2, .ni 3]), .now (.map 240 (.st 6) .bo), .now (.eT 241 3 cI cI), .now (.eT 241 3 cI cI), .now (.row 3 cI)]] (fun x=>G.uY x.1 x.2.1 x.2.2.1 x.2.2.2.1 x.2.2.2.2.1 x.2.2.2.2.2)
theorem Fy:SX GI:=fq Tryz.f202 [.tmp 6, .tmp 7] {pre:=[(6,0, .own 3 cI)],fn:=202} (.b .o (.b .o (.b .o (.b .o (.b (.j {JO [(8,oP 4 0),(11,oB)] [.box 243 [.fP cI, .ni 1, .ni 2, .ni 3], .map 240 (.st 6) .bo, .eT 241 3 cI cI, .eT 241 3 cI cI, .box 56 [.rw 5 cI], .row 3 cI] [(0,0),(1,1),(2,2),(3,3),(4,577)]with kill:=[3,4,5,9,12,14]} (.u (.lp {JO [(8,oP 4 0),(9, .one (.fn 240 [] [.ptr 5 0, .ptr 6 0, .ptr 4 0, .ptr 7 0])),(10,oB),(11,oB)] [.box 243 [.fP cI, .ni 1, .ni 2, .ni 3], .map 240 (.st 6) .bo, .eT 241 3 cI cI, .eT 241 3 cI cI, .box 56 [.rw 8 cI], .box 94 [.ptr 0 0], .box 56 [.fP (.sl cI)], .box 56 [.fP (.sl cI)], .row 3 cI] [(0,0),(1,1),(2,2),(3,3),(4,577),(5,257),(6,321),(7,385)]with kill:=[3,4,5,12,14]} .o))) .o))))) (c1 DB<|c1 Cv<|all_nil)
def vG:dt Sx:=kO 139 [.agg [.fP (.sl (.st 3)), .ptr 0 0]] [.box 243 [.fP cI, .ni 1, .ni 2, .ni 3], .map 240 (.st 6) .bo, .eT 241 3 cI cI, .eT 241 3 cI cI] [mK (.one (.rw 4 cI)) [.now (.box 243 [.fP cI, .ni 1, .ni 2, .ni 3]), .now (.map 240 (.st 6) .bo), .now (.eT 241 3 cI cI), .now (.eT 241 3 cI cI), .now (.row 3 cI)]] (fun x=>G.mR x.1 x.2.1 x.2.2.1 x.2.2.2.1 x.2.2.2.2)
theorem vm:SX vG:=fq Tryz.f139 [.tmp 2] {fn:=139} (.b .o (.b .o (.b (.b .o (.j (JO [(3, .one (.rw 0 cI))] [.row 3 cI] []) (.u (.lp {JO [(3, .one (.rw 0 cI)),(11,oI)] [.row 3 cI] []with pre:=[(3,0, .own 3 cI)]} .o)))) .o))) (c1 n8<|c1 Fy<|all_nil)
def J1:dt Sx:=kO 140 [oP 0 0,oD (.sl cI)] [.box 243 [.fP cI, .ni 1, .ni 2, .ni 3], .map 240 (.st 6) .bo, .eT 241 3 cI cI, .eT 241 3 cI cI] [mK (.m8 [oD (.sl cI),oB]) [.kept, .kept, .kept, .kept]] (fun x=>G.zl x.1 x.2.1 x.2.2.1 x.2.2.2.1 x.2.2.2.2)
theorem Ip:SX J1:=fq Tryz.f140 [.tmp 4, .tmp 5] {fn:=140} .o (c1 AN<|all_nil)
def JU:dt Sx:=kO 66 [oD (.sl (.st 3))] [] [mK (.agg [.fP (.sl (.st 3)), .ptr 0 0, .fP (.sl cI), .fP (.sl cI)]) [.now (.box 243 [.fP cI, .ni 1, .ni 2, .ni 3]), .now (.map 240 (.st 6) .bo), .now (.eT 241 3 cI cI), .now (.eT 241 3 cI cI)]] G.yA
theorem Il:SX JU:=fq Tryz.f66 [.cell 2 98] {fn:=66} .o (c1 DA<|c1 vm<|c1 n8<|c1 Ip<|all_nil)
def xl:dt Sx:=kO 77 [oD cT] [] [mK (.one (.rw 0 .u8)) [.now (.row 5 .u8)]] G.lN
theorem wK:SX xl:=fq Tryz.f77 [.tmp 2] {pre:=[(2,0, .own 5 .u8)],fn:=77} .o (all_nil)
def Fm:dt Sx:=kK 67 [oS 3] (oS 3) G.o4
theorem yd:SX Fm:=fq Tryz.f67 [.cell 2 72] {fn:=67} .o (c1 wK<|all_nil)
def GH:dt Sx:=kO 83 [oS 4,oD (.sl (.st 3))] [] [mK (.agg [.fP cI, .fP cI, .fP (.a8 32), .fP (.a8 32), .aw 0]) [.now (.arr 72 (.st 3) true)]] (s2 G.uW)
theorem Fx:SX GH:=fq Tryz.f83 [.cell 4 27] {lY:=[25],fn:=83} (.b .o (.b .o (.b (.b .o (.u (.lp {JO [(10,oI)] [.box 27 [.fP cI, .fP cI, .fP (.a8 32), .fP (.a8 32), .aw 2], .box 27 [.fP cI, .fP cI, .fP (.a8 32), .fP (.a8 32), .aw 3], .arr 72 (.st 3) true, .arr 72 (.st 3) true] [(0,257),(1,321)]with pre:=[(2,5, .arr 72 (.st 3)),(4,5, .arr 72 (.st 3))]} .o))) .o))) (c1 yd<|all_nil)
def uy:dt Sx:=kO 246 [.one (.fk),oI] [] [mK (.one (.rw 0 .u8)) [.now (.row 5 .u8)]] G.iw
theorem ur:SX uy:=fq Tryz.f246 [.tmp 4] {pre:=[(4,0, .own 5 .u8)],fn:=246} .o (all_nil)
def wG:dt Sx:=kO 205 [oD (.sl cT)] [] [mK (.one (.rw 0 .u8)) [.now (.row 5 .u8)]] G.kV
theorem wy:SX wG:=fq Tryz.f205 [.tmp 2] {fn:=205} (.b .o (.b .o (.b (.b .o (.j (JI 3) (.u (.lp (J [(3,oI),(11,oI)]) .o)))) (.b .o (.b (.b .o (.u (.lp {JO [(6, .one (.rw 0 .u8)),(27,oI)] [.row 5 .u8] []with kill:=[24]} .o))) .o))))) (c1 ur<|all_nil)
def CJ:dt Sx:=kK 143 [oI,oD (.sl cT)] (oS 3) (s2 G.rG)
theorem Ct:SX CJ:=fq Tryz.f143 [.cell 4 72] {fn:=143} .o (c1 wy<|all_nil)
def CR:dt Sx:=kO 68 [oD cT,oS 4,oD (.sl cI)] [] [mK (.m8 [.agg [.fP cI, .fP cI, .fP (.a8 32), .fP (.a8 32), .aw 0],oB]) [.now (.arr 72 (.st 3) true)]] (s3 G.rN)
theorem CA:SX CR:=fq Tryz.f68 [.cell 6 27, .tmp 7] {lY:=[25],pre:=[(6,5, .arr 72 (.st 3))],fn:=68} (.b .o (.b .o (.b .o (.b (.b .o (.u (.lp {JO [(26,oI)] [.box 27 [.fP cI, .fP cI, .fP (.a8 32), .fP (.a8 32), .aw 2], .arr 72 (.st 3) true, .arr 72 (.st 3) true] [(0,321),(1,961)]with pre:=[(6,5, .arr 72 (.st 3))]} (.b .o (.b .o (.b (.u (.b .o (.b .o (.b (.j (JB 41) .o) .o)))) .o)))))) .o)))) (c1 Fx<|c1 mQ<|c1 fN<|c1 Ct<|all_nil)
def Bq:dt Sx:=kK 70 [oS 3] oB G.mE
theorem uo:SX Bq:=fq Tryz.f70 [.tmp 2] {fn:=70} .o (all_nil)
def g8:dt Sx:=kO 144 [oA 0, .one (.fn 70 [] [])] [.arr 72 (.st 3) true] [mK oI [.kept]] G.ck
theorem gX:SX g8:=fq Tryz.f144 [.tmp 4] {fn:=144} (.b .o (.b (.b .o (.u (.lp (JI 8) .o))) .o)) (c1 uo<|all_nil)
def gC:dt Sx:=kO 69 [oA 0, .one (.fn 70 [] [])] [.arr 72 (.st 3) true] [mK (oA 0) [.kept],mK (oA 1) [.gone, .now (.arr 72 (.st 3) true)]] G.cd
theorem gA:SX gC:=fq Tryz.f69 [.tmp 4] {lY:=[25],parts:=[25],fn:=69} (.b .o (.b .o (.b .o (.b (.b .o (.j (JO [(5,oI)] [.arr 72 (.st 3) true] [(0,0)]) (.u (.lp (JO [(5,oI),(6,oI)] [.arr 72 (.st 3) true] [(0,0)]) .o)))) .o)))) (c1 gX<|c1 uo<|all_nil)
def Br:dt Sx:=kK 72 [oS 3,oS 3] oI (s2 G.cq)
theorem fM:SX Br:=fq Tryz.f72 [.tmp 4] {fn:=72} .o (c1 wi<|all_nil)
def il:dt Sx:={f:=206,ins:=[oA 0,oI,oI, .one (.fn 72 [] [])],fc:=[.arr 72 (.st 3) true],ls:=[(.sl (.st 3)),cI,cI],pm:=[2,0,1],bk:=[1,2,0],outs:=[mK (.m8 []) [.now (.arr 72 (.st 3) true)]],pB:=fun x=>G.ez x.1 x.2.1 x.2.2}
theorem ig:SX il:=fq Tryz.f206 [] {lY:=[25],fn:=206} (.b .o (.u (.lp (JO [(8,oI)] [.arr 72 (.st 3) true] [(0,0)]) (.b .o (.b (.u (.b .o (.u (.lp (JO [(9,oI)] [.arr 72 (.st 3) true] [(0,0)]) (.b (.b (.j (JB 34) .o) .o) .o))))) .o))))) (c1 fM<|all_nil)
def jN:dt Sx:={f:=247,ins:=[oA 0,oI,oI,oI, .one (.fn 72 [] [])],fc:=[.arr 72 (.st 3) true],ls:=[(.sl (.st 3)),cI,cI,cI],pm:=[3,0,1,2],bk:=[1,2,3,0],outs:=[mK (.m8 []) [.now (.arr 72 (.st 3) true)]],pB:=fun x=>G.du x.1 x.2.1 x.2.2.1 x.2.2.2}
theorem jG:SX jN:=fq Tryz.f247 [] {lY:=[25],fn:=247} (.b .o (.u (.lp (JO [(10,oI)] [.arr 72 (.st 3) true] [(0,0)]) (.u (.b .o (.b .o (.b (.b (.j (JB 40) .o) (.j (JI 11) .o)) .o))))))) (c1 fM<|all_nil)
def jK:dt Sx:={f:=207,ins:=[oA 0,oI,oI, .one (.fn 72 [] [])],fc:=[.arr 72 (.st 3) true],ls:=[(.sl (.st 3)),cI,cI],pm:=[2,0,1],bk:=[1,2,0],outs:=[mK (.m8 []) [.now (.arr 72 (.st 3) true)]],pB:=fun x=>G.eR x.1 x.2.1 x.2.2}
theorem jD:SX jK:=fq Tryz.f207 [] {lY:=[25],fn:=207} (.b .o (.b .o (.b .o (.b (.b .o (.j (JO [] [.arr 72 (.st 3) true] [(0,0)]) (.u (.lp (JO [(11,oI)] [.arr 72 (.st 3) true] [(0,0)]) .o)))) (.b .o (.u (.lp (JO [(12,oI)] [.arr 72 (.st 3) true] [(0,0)]) .o))))))) (c1 jG<|all_nil)
def ik:dt Sx:={f:=208,ins:=[oA 0,oI,oI, .one (.fn 72 [] [])],fc:=[.arr 72 (.st 3) true],ls:=[(.sl (.st 3)),cI,cI],pm:=[2,0,1],bk:=[1,2,0],outs:=[mK (.m8 []) [.now (.arr 72 (.st 3) true)]],pB:=fun x=>G.ey x.1 x.2.1 x.2.2}
theorem ie:SX ik:=fq Tryz.f208 [] {lY:=[25],fn:=208} (.b .o (.b .o (.b (.b .o (.b .o (.b .o (.u (.lp (JO [(11,oI)] [.arr 72 (.st 3) true, .box 277 [.fP (.int .u64)]] [(0,0),(1,769)]) (.b .o (.b (.u (.b .o (.b (.b .o (.j (JI 12) .o)) .o))) .o))))))) .o))) (c1 mV<|c1 nU<|all_nil)
def kH:dt Sx:={f:=275,ins:=[oA 0,oI,oI,oP 1 0, .one (.fn 72 [] [])],fc:=[.arr 72 (.st 3) true, .box 3 [.fP cI]],ls:=[(.sl (.st 3)),cI,cI,cI],pm:=[2,0,1,3],bk:=[1,2,0,3],outs:=[mK (.m8 [oI,oI]) [.kept, .now (.box 3 [.fP cI])]],pB:=fun x=>G.cE x.1 x.2.1 x.2.2.1 x.2.2.2}
theorem kA:SX kH:=fq Tryz.f275 [.tmp 10, .tmp 11] {fn:=275} .o (c1 fM<|all_nil)
def kG:dt Sx:={f:=249,ins:=[oA 0,oI,oI,oI,oP 1 0, .one (.fn 72 [] [])],fc:=[.arr 72 (.st 3) true, .box 3 [.fP cI]],ls:=[(.sl (.st 3)),cI,cI,cI,cI],pm:=[3,0,1,2,4],bk:=[1,2,3,0,4],outs:=[mK oI [.kept, .now (.box 3 [.fP cI])]],pB:=fun x=>G.dA x.1 x.2.1 x.2.2.1 x.2.2.2.1 x.2.2.2.2}
theorem eM:SX kG:=fq Tryz.f249 [.tmp 12] {fn:=249} .o (c1 kA<|all_nil)
def g9:dt Sx:={f:=248,ins:=[oA 0,oI,oP 1 0, .one (.fn 72 [] [])],fc:=[.arr 72 (.st 3) true, .box 3 [.fP cI]],ls:=[(.sl (.st 3)),cI,cI],pm:=[1,0,2],bk:=[1,0,2],outs:=[mK oI [.kept, .now (.box 3 [.fP cI])]],pB:=fun x=>G.cl x.1 x.2.1 x.2.2}
theorem gY:SX g9:=fq Tryz.f248 [.tmp 8] {fn:=248} .o (c1 eM<|all_nil)
def iW:dt Sx:={f:=209,ins:=[oA 0,oI,oI, .one (.fn 72 [] [])],fc:=[.arr 72 (.st 3) true],ls:=[(.sl (.st 3)),cI,cI],pm:=[2,0,1],bk:=[1,2,0],outs:=[mK (.m8 [oI,oI]) [.kept]],pB:=fun x=>G.eG x.1 x.2.1 x.2.2}
theorem iO:SX iW:=fq Tryz.f209 [.tmp 8, .tmp 9] {fn:=209} (.b .o (.b .o (.b .o (.b .o (.b .o (.b .o (.b (.b .o (.j (JO [(13,oI)] [.box 3 [.fP cI]] [(0,641)]) (.b (.b (.b .o (.j (JO [(12,oI),(13,oI),(14,oI)] [.box 3 [.fP cI]] [(0,641)]) .o)) .o) .o))) .o))))))) (c1 gY<|c1 eM<|all_nil)
def iL:dt Sx:={f:=210,ins:=[oA 0,oI,oI, .one (.fn 72 [] [])],fc:=[.arr 72 (.st 3) true],ls:=[(.sl (.st 3)),cI,cI],pm:=[2,0,1],bk:=[1,2,0],outs:=[mK (.m8 []) [.now (.arr 72 (.st 3) true)]],pB:=fun x=>G.eD x.1 x.2.1 x.2.2}
theorem iC:SX iL:=fq Tryz.f210 [] {lY:=[25],fn:=210} (.b .o (.b .o (.u (.lp (JO [(8,oI),(9,oI)] [.arr 72 (.st 3) true] [(0,0)]) .o)))) (all_nil)
def gu:dt Sx:={f:=211,ins:=[oA 0,oI,oI, .one (.fn 72 [] [])],fc:=[.arr 72 (.st 3) true],ls:=[(.sl (.st 3)),cI,cI],pm:=[2,0,1],bk:=[1,2,0],outs:=[mK oB [.now (.arr 72 (.st 3) true)]],pB:=fun x=>G.dJ x.1 x.2.1 x.2.2}
theorem fZ:SX gu:=fq Tryz.f211 [.tmp 8] {lY:=[25],fn:=211} (.b .o (.b .o (.b (.b .o (.u (.lp (JO [(9,oI),(10,oI)] [.arr 72 (.st 3) true] [(0,0)]) (.b .o (.b (.u (.b (.j (JI 9) (.u (.lp (JI 9) (.b (.b (.j (JB 36) .o) .o) .o)))) (.b .o (.b .o (.b .o (.b (.b .o (.j (JO [] [.arr 72 (.st 3) true] [(0,0)]) (.b (.b .o (.u (.lp (JO [(11,oI)] [.arr 72 (.st 3) true] [(0,0)]) .o))) .o))) (.b .o (.b (.b .o (.u (.lp (JO [(12,oI)] [.arr 72 (.st 3) true] [(0,0)]) .o))) .o)))))))) .o))))) .o))) (c1 fM<|all_nil)
def hZ:dt Sx:={f:=212,ins:=[oA 0,oI,oI,oI, .one (.fn 72 [] [])],fc:=[.arr 72 (.st 3) true],ls:=[(.sl (.st 3)),cI,cI,cI],pm:=[3,0,1,2],bk:=[1,2,3,0],outs:=[mK oI [.now (.arr 72 (.st 3) true)]],pB:=fun x=>G.eo x.1 x.2.1 x.2.2.1 x.2.2.2}
theorem g7:SX hZ:=fq Tryz.f212 [.tmp 10] {lY:=[25],fn:=212} (.b .o (.b .o (.b .o (.b (.u (.lp (JO [(11,oI),(12,oI)] [.arr 72 (.st 3) true] [(0,0)]) (.u (.b (.j (JI 11) (.u (.lp (JI 11) (.b (.b (.j (JB 47) .o) .o) .o)))) (.b (.j (JI 12) (.u (.lp (JI 12) (.b (.b (.j (JB 65) .o) .o) .o)))) .o))))) .o)))) (c1 fM<|all_nil)
def jt:dt Sx:={f:=213,ins:=[oA 0,oI,oI,oI, .one (.fn 72 [] [])],fc:=[.arr 72 (.st 3) true],ls:=[(.sl (.st 3)),cI,cI,cI],pm:=[3,0,1,2],bk:=[1,2,3,0],outs:=[mK (.m8 [oI,oB]) [.now (.arr 72 (.st 3) true)]],pB:=fun x=>G.eL x.1 x.2.1 x.2.2.1 x.2.2.2}
theorem jo:SX jt:=fq Tryz.f213 [.tmp 10, .tmp 11] {lY:=[25],fn:=213} (.b .o (.b .o (.b .o (.b (.j (JI 12) (.u (.lp (JI 12) (.b (.b (.j (JB 47) .o) .o) .o)))) (.b (.j (JI 13) (.u (.lp (JI 13) (.b (.b (.j (JB 66) .o) .o) .o)))) (.b .o (.b .o (.b .o (.b .o (.b (.j (JO [(13,oI)] [.arr 72 (.st 3) true] [(0,0)]) (.u (.lp (JO [(12,oI),(13,oI)] [.arr 72 (.st 3) true] [(0,0)]) (.u (.b (.j (JI 12) (.u (.lp (JI 12) (.b (.b (.j (JB 120) .o) .o) .o)))) (.b (.j (JI 13) (.u (.lp (JI 13) (.b (.b (.j (JB 139) .o) .o) .o)))) .o)))))) .o)))))))))) (c1 fM<|all_nil)
def eH(g:((List G.Command)×Int×Int×Int)->Option (List G.Command)):dt Sx:={f:=145,ins:=[oA 0,oI,oI,oI, .one (.fn 72 [] [])],fc:=[.arr 72 (.st 3) true],ls:=[(.sl (.st 3)),cI,cI,cI],pm:=[3,0,1,2],bk:=[1,2,3,0],outs:=[{out:= .m8 [],k9:=[.now (.arr 72 (.st 3) true)],zp:=[(.sl (.st 3))]}],pB:=g}
def ke:dt Sx:={f:=145,ins:=[oA 0,oI,oI,oI, .one (.fn 72 [] [])],fc:=[.arr 72 (.st 3) true],ls:=[(.sl (.st 3)),cI,cI,cI],pm:=[3,0,1,2],bk:=[1,2,3,0],outs:=[mK (.m8 []) [.now (.arr 72 (.st 3) true)]],pB:=fun x=>G.fg x.1 x.2.1 x.2.2.1 x.2.2.2}
theorem jZ:SX ke:=Em (c:=eH fun _=>none) (F:=G.dn) fun g hg=>fq (c:=eH (G.dn g)) Tryz.f145 [] {fn:=145} (.b .o (.b .o (.u (.lp (JO [(1,oI),(2,oI),(3,oI),(10,oB),(11,oB)] [.arr 72 (.st 3) true] [(0,0)]) (.u (.b .o (.b .o (.b .o (.b (.b .o (.j (JO [(3,oI)] [.arr 72 (.st 3) true] [(0,0)]) .o)) (.b .o (.b (.b .o (.j (JO [(13,oI),(14,oI)] [.arr 72 (.st 3) true] [(0,0)]) .o)) (.b (.b (.j (JB 75) .o) (.j {JO [] [.arr 72 (.st 3) true] [(0,0)]with early:=true} .o)) (.b (.b (.j (JB 97) .o) .o) .o))))))))))))) (c1 hg<|c1 ig<|c1 jD<|c1 ie<|c1 iO<|c1 iC<|c1 fZ<|c1 fM<|c1 g7<|c1 jo<|all_nil)
def gL:dt Sx:=kO 71 [oA 0, .one (.fn 72 [] [])] [.arr 72 (.st 3) true] [mK (.m8 []) [.now (.arr 72 (.st 3) true)]] G.cf
theorem gI:SX gL:=fq Tryz.f71 [] {lY:=[25],fn:=71} .o (c1 qJ<|c1 jZ<|all_nil)
def CK:dt Sx:=kK 21 [oD cT,oD (.sl (.st 3))] (oD (.sl (.st 3))) (s2 G.rH)
theorem Cu:SX CK:=fq Tryz.f21 [.tmp 4] {lY:=[25],pre:=[(4,0, .UN)],fn:=21} (.b .o (.b .o (.b .o (.b (.b .o (.j (JO [(6,oA 0)] [.arr 72 (.st 3) true] []) (.u (.lp {JO [(6,oA 0),(17,oI)] [.arr 72 (.st 3) true] []with pre:=[(6,0, .arr 72 (.st 3))]} .o)))) (.b .o (.b (.j {JO [(11,oA 0)] [.arr 72 (.st 3) true] []with kill:=[9,30,38,39]} .o) (.b .o (.b (.z [(11,0, .UN)] .o) .o)))))))) (c1 Il<|c1 yd<|c1 CA<|c1 gA<|c1 gI<|all_nil)
def zA:dt Sx:=kO 23 [oD cT,oI] [] [mK (.one (.rw 0 .u8)) [.now (.row 5 .u8)]] (s2 G.nh)
theorem zh:SX zA:=fq Tryz.f23 [.tmp 4] {fn:=23} (.b .o (.b .o (.b (.u (.lp {JO [(5, .one (.rw 0 .u8))] [.row 5 .u8] []with kill:=[8]} .o)) .o))) (all_nil)
def Cd:dt Sx:=kO 26 [oD cT,oS 4] [] [mK (.one (.rw 0 .u8)) [.now (.row 5 .u8)]] (s2 G.qu)
theorem BL:SX Cd:=fq Tryz.f26 [.tmp 4] {fn:=26} (.b .o (.b .o (.b (.b .o (.u (.lp {JO [(5, .one (.rw 0 .u8)),(6,oI)] [.row 5 .u8] []with pre:=[(5,0, .own 5 .u8)]} .o))) .o))) (c1 wm<|all_nil)
def wD:dt Sx:=kK 4 [oD cT,oS 4] oB (s2 G.nu)
theorem wk:SX wD:=fq Tryz.f4 [.tmp 4] {fn:=4} (.b .o (.b (.b (.j (JB 21) .o) .o) (.b .o (.b .o (.b (.b (.j (JB 44) .o) .o) .o))))) (c1 BN<|c1 Cy<|c1 BH<|c1 Cu<|c1 zh<|c1 zw<|c1 BX<|c1 wv<|c1 BL<|all_nil)
end
end Go.Proofs.YtekpafdhgkocaaaGreat
