/- Part of the proof. -/
import Derived.Test.YtjfkdglgecgjfaaGreatZRZ
namespace Go.Proofs.YtjfkdglgecgjfaaGreat
open Go.RowKit G
open E
set_option maxRecDepth 100000
noncomputable section
abbrev cI:Co:=.int .i64
abbrev cT:Co:=.sl .u8
abbrev oD(c:Co):PS:=.one (.zy c)
abbrev oI:=oD cI
abbrev oB:=oD .bo
abbrev oP(i j:Nat):PS:=.one (.ptr i j)
abbrev oA(i:Nat):PS:=.one (.aw i)
abbrev oS(n:Nat):PS:=.agg [.zy (.st n)]
def cA:CS->List Co| .zy c=>[c]| .rw _ c=>[.sl c]|_=>[]
def cB:CS->List Co| .fn _ xs ys=>(xs++ys).flatMap cA|s=>cA s
def cP:PS->List Co| .one s=>cB s| .agg l=>l.flatMap cB|_=>[]
def cQ:PS->List Co| .du l=>l.flatMap cP|p=>cP p
def cO:OS->List Co| .box _ l=>l.flatMap cB| .arr _ c _=>[.sl c]| .map _ k v=>[.mp k v]| .kF _ _ k c=>[.mp k (.sl c)]| .gi _ k v _=>[.mp k v]| .loop _ _ l=>l.flatMap fun x=>cQ x.2|_=>[]
def cK:KS->List Co| .now s=>cO s|_=>[]
abbrev lJ(l:List (Nat×PS))(dP:List OS):List Co:=l.flatMap (fun x=>cQ x.2)++dP.flatMap cO
abbrev lC(l:List PS)(dP:List OS):List Co:=l.flatMap cQ++dP.flatMap cO
abbrev lO(p:PS)(dP:List KS):List Co:=cQ p++dP.flatMap cK
def J(l:List (Nat×PS))(h:(Nat.ble l.length 190&&Nat.ble 0 190)=true:=by rfl):JA:={FN:=l,dP:=[],ls:=lJ l [],vY:=h}
def JO(l:List (Nat×PS))(dP:List OS)(f:List (Nat×Nat))(h:(Nat.ble l.length 190&&Nat.ble dP.length 190)=true:=by rfl):JA:={FN:=l,dP:=dP,ls:=lJ l dP,fx:=f,vY:=h}
def JI(n:Nat):JA:=J [(n,oI)]
def JB(n:Nat):JA:=J [(n,oB)]
abbrev mO(p:PS):Out:={out:=p,oV:=lO p []}
abbrev mK(p:PS)(dP:List KS)(h:Nat.ble dP.length 30=true:=by rfl):Out:={out:=p,dQ:=dP,oV:=lO p dP,vY:=h}
abbrev kK(f:FuncId)(l:List PS)(o:PS)(yO:HT Sx (lC l [])->Option (ig Sx [mO o])):jr Sx:={f:=f,ins:=l,ls:=lC l [],outs:=[mO o],yO:=yO}
abbrev kO(f:FuncId)(l:List PS)(dP:List OS)(os:List Out)(yO:HT Sx (lC l dP)->Option (ig Sx os))(h:(Nat.ble dP.length 30&&os.all fun o=>Nat.ble dP.length o.dQ.length)=true:=by rfl):jr Sx:={f:=f,ins:=l,dP:=dP,ls:=lC l dP,outs:=os,yO:=yO,vY:=h}
abbrev s2{a b d:Type}(f:a->b->d)(x:a×b):d:=f x.1 x.2
abbrev s3{a b c d:Type}(f:a->b->c->d)(x:a×b×c):d:=f x.1 x.2.1 x.2.2
abbrev s4{a b c e d:Type}(f:a->b->c->e->d)(x:a×b×c×e):d:=f x.1 x.2.1 x.2.2.1 x.2.2.2
def jv:jr Sx:=kK 6 [.one (.dM)] (.du [oB,oI]) (fun _=>cx)
theorem fk:SX jv:=fq Tryz.f6 [.tmp 2,.tmp 3] {fn:=6} .o (dT)
def pf:jr Sx:=kK 7 [] oB (fun _=>fo)
theorem oO:SX pf:=R.NA
def xz:jr Sx:=kK 8 [oI] (.one (.zy .str)) gy
theorem wi:SX xz:=fq Tryz.f8 [.tmp 2] {fn:=8} .o (dT)
def iU:jr Sx:=kK 9 [.one (.dM)] oI (fun _=>c7)
theorem iA:SX iU:=fq Tryz.f9 [.tmp 2] {fn:=9} .o (dT)
def jt:jr Sx:=kK 10 [.one (.dM)] oI (fun _=>dh)
theorem jk:SX jt:=fq Tryz.f10 [.tmp 2] {fn:=10} .o (dT)
def iV:jr Sx:=kK 11 [.one (.dM)] oI (fun _=>c8)
theorem iB:SX iV:=fq Tryz.f11 [.tmp 2] {fn:=11} .o (dT)
def ju:jr Sx:=kK 12 [.one (.dM)] oI (fun _=>dj)
theorem jl:SX ju:=fq Tryz.f12 [.tmp 2] {fn:=12} .o (dT)
def ij:jr Sx:=kK 13 [.one (.dM)] (oS 1) (fun _=>bP)
theorem eI:SX ij:=fq Tryz.f13 [.cell 2 31] {fn:=13} .o (dT)
def jZ:jr Sx:=kK 14 [.one (.dM)] (oS 1) (fun _=>cD)
theorem jy:SX jZ:=fq Tryz.f14 [.cell 2 31] {fn:=14} (.b .o (.b .o (.u (.lp {} (.u (.b .o (.b (.j (JB 21) .o) .o))))))) (c1 eI<|c1 fk<|dT)
def kn:jr Sx:=kK 3 [oI] oB eM
theorem kf:SX kn:=fq Tryz.f3 [.tmp 2] {fn:=3} (.b .o (.b .o (.b (.b (.j (JB 12) .o) (.j (J [(3,.one (.zy .str))]) .o)) .o))) (c1 fk<|c1 oO<|c1 wi<|c1 iA<|c1 jk<|c1 iB<|c1 jl<|c1 eI<|c1 jy<|dT)
end
end Go.Proofs.YtjfkdglgecgjfaaGreat
