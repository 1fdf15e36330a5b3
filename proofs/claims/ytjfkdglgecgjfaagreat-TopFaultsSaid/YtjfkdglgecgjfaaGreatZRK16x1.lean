/- Part of the proof. -/
import Derived.Test.YtjfkdglgecgjfaaGreatZRS16
namespace Go.Proofs.YtjfkdglgecgjfaaGreat.R
open Go
theorem aa5:Un Tryz.prog 16 [0,1,103,110] 21751=some TV.rt:=by kernel_rfl
end Go.Proofs.YtjfkdglgecgjfaaGreat.R
