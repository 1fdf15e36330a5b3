/- Part of the proof. -/
import Derived.Test.YtjfkdglgecgjfaaGreatZRS16
namespace Go.Proofs.YtjfkdglgecgjfaaGreat.R
open Go
theorem WY:zl [0,1,103,110,111,112,113,114,115,116,117] 0 (Pr.run Tryz.prog 24521)=some Ps.rt:=by kernel_rfl
end Go.Proofs.YtjfkdglgecgjfaaGreat.R
