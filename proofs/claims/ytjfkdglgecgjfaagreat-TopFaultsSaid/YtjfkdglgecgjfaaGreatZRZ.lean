/- Part of the proof. -/
import Derived.Test.YtjfkdglgecgjfaaGreatZRK16x1
import Derived.Test.YtjfkdglgecgjfaaGreatZRK16x2
import Derived.Test.YtjfkdglgecgjfaaGreatZRK16x3
import Derived.Test.YtjfkdglgecgjfaaGreatZRK16x4
import Derived.Test.YtjfkdglgecgjfaaGreatZRK16x5
import Derived.Test.YtjfkdglgecgjfaaGreatZRK16x6
import Derived.Test.YtjfkdglgecgjfaaGreatZRK16x7
import Derived.Test.YtjfkdglgecgjfaaGreatZRK16x8
import Derived.Test.YtjfkdglgecgjfaaGreatZRK16x9
import Derived.Test.YtjfkdglgecgjfaaGreatZRK16x10
import Derived.Test.YtjfkdglgecgjfaaGreatZRK16x11
import Derived.Test.YtjfkdglgecgjfaaGreatZRK16x12
import Derived.Test.YtjfkdglgecgjfaaGreatZRK16x13
import Derived.Test.YtjfkdglgecgjfaaGreatZRK16x14
import Derived.Test.YtjfkdglgecgjfaaGreatZRK16x15
namespace Go.Proofs.YtjfkdglgecgjfaaGreat.R
open Go Go.RowKit
theorem YV:gM Tryz.prog Wd MA:=Yv kz Zg
theorem YU:gM Tryz.prog Wd Mz:=pU kz Zf YV
theorem YT:gM Tryz.prog Wd My:=pU kz Ze YU
theorem YS:gM Tryz.prog Wd Mx:=pU kz Zd YT
theorem YR:gM Tryz.prog Wd Mw:=pU kz Zc YS
theorem aaY:gM Tryz.prog Wd T3:=pU kz Zb YR
theorem aaX:gM Tryz.prog Wd T1:=pU kz abd aaY
theorem SC:gM Tryz.prog Wd Kc:=pU kz abc aaX
theorem aaW:gM Tryz.prog Wd T0:=MO kz abb SC
theorem aaV:gM Tryz.prog Wd TZ:=MO kz aba SC
theorem aaU:gM Tryz.prog Wd TY:=MO kz aa9 SC
theorem aaT:gM Tryz.prog Wd TX:=Wb kz aa8 (List.forall_mem_cons.2 ⟨aaU,(List.forall_mem_cons.2 ⟨aaV,(List.forall_mem_cons.2 ⟨aaW,fun _ h=>nomatch h⟩)⟩)⟩)
theorem aaS:gM Tryz.prog Wd TW:=pU kz aa7 aaT
theorem aaR:gM Tryz.prog Wd TV:=pU kz aa6 aaS
theorem Xk:E.Sound Tryz.prog E.KT ({f:=16,ins:=[],ls:=[],outs:=[{out:=.one (.eX .bo),vm:=[.bo]}],uU:=fun _=>some true}:E.dS E.Sx):=
 QB rfl (enters_of Tryz.func16 (by kernel_rfl) (by kernel_rfl)) (yt kz aa5 aaR)
end Go.Proofs.YtjfkdglgecgjfaaGreat.R
