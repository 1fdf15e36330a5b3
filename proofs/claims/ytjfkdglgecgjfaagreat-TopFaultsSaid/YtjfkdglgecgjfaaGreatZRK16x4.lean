/- Part of the proof. -/
import Derived.Test.YtjfkdglgecgjfaaGreatZRS16
namespace Go.Proofs.YtjfkdglgecgjfaaGreat.R
open Go
theorem aa8:Sv Tryz.prog [0,1,103,110,111,112,113,114,115,116,117,339,340,341,342,343,344,422,426,428,466,468,469,470,477,478,479,484,486,487,488,489,490,491,492,512,513,514,515,516] TX=some ([TY,TZ,T0].map CS.rt):=by kernel_rfl
end Go.Proofs.YtjfkdglgecgjfaaGreat.R
