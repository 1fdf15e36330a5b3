/- Part of the proof. -/
import Derived.Test.YtjfkdglgecgjfaaGreatZRS7
namespace Go.Proofs.YtjfkdglgecgjfaaGreat.R
open Go
theorem P0:ED [0,1,98,555,557] 0 (Nu.run Tryz.prog 28937)=some Nv.rt:=by kernel_rfl
end Go.Proofs.YtjfkdglgecgjfaaGreat.R
