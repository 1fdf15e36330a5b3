/- Part of the proof. -/
import Derived.Test.YtjfkdglgecgjfaaGreatZRK16x1
import Derived.Test.YtjfkdglgecgjfaaGreatZRK16x2
import Derived.Test.YtjfkdglgecgjfaaGreatZRK16x3
import Derived.Test.YtjfkdglgecgjfaaGreatZRK16x4
import Derived.Test.YtjfkdglgecgjfaaGreatZRK16x5
import Derived.Test.YtjfkdglgecgjfaaGreatZRK16x6
import Derived.Test.YtjfkdglgecgjfaaGreatZRK16x7
import Derived.Test.YtjfkdglgecgjfaaGreatZRK16x8
import Derived.Test.YtjfkdglgecgjfaaGreatZRK16x9
import Derived.Test.YtjfkdglgecgjfaaGreatZRK16x10
import Derived.Test.YtjfkdglgecgjfaaGreatZRK16x11
import Derived.Test.YtjfkdglgecgjfaaGreatZRK16x12
import Derived.Test.YtjfkdglgecgjfaaGreatZRK16x13
import Derived.Test.YtjfkdglgecgjfaaGreatZRK16x14
import Derived.Test.YtjfkdglgecgjfaaGreatZRK16x15
namespace Go.Proofs.YtjfkdglgecgjfaaGreat.R
open Go Go.RowKit
theorem US:fk Tryz.prog Wd Iq:=Ur iQ Vd
theorem UR:fk Tryz.prog Wd Ip:=mY iQ Vc US
theorem UQ:fk Tryz.prog Wd Io:=mY iQ Vb UR
theorem UO:fk Tryz.prog Wd Im:=mY iQ Va UQ
theorem UN:fk Tryz.prog Wd Il:=mY iQ U9 UO
theorem WQ:fk Tryz.prog Wd Pz:=mY iQ U7 UN
theorem WO:fk Tryz.prog Wd Py:=mY iQ W7 WQ
theorem Oa:fk Tryz.prog Wd Gk:=mY iQ W5 WO
theorem WN:fk Tryz.prog Wd Px:=II iQ W4 Oa
theorem WM:fk Tryz.prog Wd Pw:=II iQ W3 Oa
theorem WL:fk Tryz.prog Wd Pv:=II iQ W1 Oa
theorem WK:fk Tryz.prog Wd Pu:=RQ iQ W0 (List.forall_mem_cons.2 ⟨WL,(List.forall_mem_cons.2 ⟨WM,(List.forall_mem_cons.2 ⟨WN,fun _ h=>nomatch h⟩)⟩)⟩)
theorem WJ:fk Tryz.prog Wd Ps:=mY iQ WZ WK
theorem WI:fk Tryz.prog Wd Pr:=mY iQ WY WJ
theorem S8:E.Sound Tryz.prog E.KT ({f:=16,ins:=[],ls:=[],outs:=[{out:=.one (.hU .bo),sD:=[.bo]}],D0:=fun _=>some true}:E.gj E.Sx):=
 Ms rfl (enters_of Tryz.func16 (by kernel_rfl) (by kernel_rfl)) (AY iQ WX WI)
end Go.Proofs.YtjfkdglgecgjfaaGreat.R
