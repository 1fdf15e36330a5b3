/- Part of the proof. -/
import Derived.Test.YtjfkdglgecgjfaaGreatZRS7
namespace Go.Proofs.YtjfkdglgecgjfaaGreat.R
open Go
theorem PZ:Io Tryz.prog 7 [0,1,98] 21430=some Nu.rt:=by kernel_rfl
end Go.Proofs.YtjfkdglgecgjfaaGreat.R
