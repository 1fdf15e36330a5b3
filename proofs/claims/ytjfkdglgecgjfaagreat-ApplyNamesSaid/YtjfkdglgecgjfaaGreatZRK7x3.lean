/- Part of the proof. -/
import Derived.Test.YtjfkdglgecgjfaaGreatZRS7
namespace Go.Proofs.YtjfkdglgecgjfaaGreat.R
open Go
theorem P1:ED [0,1,98,555,557,558,559,571,572,577,578,579,581,582,642,671,672,874,875,876,878,879] 0 (Nv.run Tryz.prog 24499)=some Nw.rt:=by kernel_rfl
end Go.Proofs.YtjfkdglgecgjfaaGreat.R
