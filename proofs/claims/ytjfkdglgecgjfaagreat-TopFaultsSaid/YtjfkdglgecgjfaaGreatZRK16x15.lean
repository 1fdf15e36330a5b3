/- Part of the proof. -/
import Derived.Test.YtjfkdglgecgjfaaGreatZRS16
namespace Go.Proofs.YtjfkdglgecgjfaaGreat.R
open Go
theorem Zg:Ys (MA.run Tryz.prog 22233)=true:=by kernel_rfl
end Go.Proofs.YtjfkdglgecgjfaaGreat.R
