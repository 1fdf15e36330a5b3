/- Part of the proof. -/
import Derived.Test.YtjfkdglgecgjfaaGreatZRS16
namespace Go.Proofs.YtjfkdglgecgjfaaGreat.R
open Go
theorem aa6:CK [0,1,103,110,111,112,113,114,115,116,117] 0 (TV.run Tryz.prog 24521)=some TW.rt:=by kernel_rfl
end Go.Proofs.YtjfkdglgecgjfaaGreat.R
