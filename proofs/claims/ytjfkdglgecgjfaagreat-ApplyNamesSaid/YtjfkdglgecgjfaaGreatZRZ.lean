/- Part of the proof. -/
import Derived.Test.YtjfkdglgecgjfaaGreatZRK7x1
import Derived.Test.YtjfkdglgecgjfaaGreatZRK7x2
import Derived.Test.YtjfkdglgecgjfaaGreatZRK7x3
import Derived.Test.YtjfkdglgecgjfaaGreatZRK7x4
import Derived.Test.YtjfkdglgecgjfaaGreatZRK7x5
import Derived.Test.YtjfkdglgecgjfaaGreatZRK7x6
namespace Go.Proofs.YtjfkdglgecgjfaaGreat.R
open Go Go.RowKit
theorem PW:jA Tryz.prog Wd Ny:=Mt rD P4
theorem PV:jA Tryz.prog Wd Nx:=uu rD P3 PW
theorem PU:jA Tryz.prog Wd Nw:=uu rD P2 PV
theorem PT:jA Tryz.prog Wd Nv:=uu rD P1 PU
theorem PR:jA Tryz.prog Wd Nu:=uu rD P0 PT
theorem NA:E.Sound Tryz.prog E.KT ({f:=7,ins:=[],ls:=[],outs:=[{out:=.one (.zy .bo),oV:=[.bo]}],yO:=fun _=>some true}:E.jr E.Sx):=
 Fm rfl (enters_of Tryz.func7 (by kernel_rfl) (by kernel_rfl)) (vP rD PZ PR)
end Go.Proofs.YtjfkdglgecgjfaaGreat.R
