/- Part of the proof. -/
import Derived.Test.YtjfkdglgecgjfaaGreatZRS7
namespace Go.Proofs.YtjfkdglgecgjfaaGreat.R
open Go
theorem P3:ED [0,1,98,555,557,558,559,571,572,577,578,579,923,1066,1068,1071,1110,1112,1119,1125,1126,1129,1130,1368,1467] 0 (Nx.run Tryz.prog 24351)=some Ny.rt:=by kernel_rfl
end Go.Proofs.YtjfkdglgecgjfaaGreat.R
