/- Part of the proof. -/
import Derived.Test.YtjfkdglgecgjfaaGreatZRS7
namespace Go.Proofs.YtjfkdglgecgjfaaGreat.R
open Go
theorem P2:ED [0,1,98,555,557,558,559,571,572,577,578,579,923,1066,1068,1071,1110,1112,1119,1125,1126,1129,1130,1131,1132,1134,1215] 0 (Nw.run Tryz.prog 27990)=some Nx.rt:=by kernel_rfl
end Go.Proofs.YtjfkdglgecgjfaaGreat.R
