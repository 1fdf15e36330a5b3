/- Part of the proof. -/
import Derived.Test.YtjfkdglgecgjfaaGreatZRS7
namespace Go.Proofs.YtjfkdglgecgjfaaGreat.R
open Go
theorem P4:Mr (Ny.run Tryz.prog 32934)=true:=by kernel_rfl
end Go.Proofs.YtjfkdglgecgjfaaGreat.R
