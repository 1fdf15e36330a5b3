/- Part of the proof. -/
import Derived.Test.YtjfkdglgecgjfaaGreatZRS16
namespace Go.Proofs.YtjfkdglgecgjfaaGreat.R
open Go
theorem WX:PU Tryz.prog 16 [0,1,103,110] 21751=some Pr.rt:=by kernel_rfl
end Go.Proofs.YtjfkdglgecgjfaaGreat.R
