/- Part of the proof. -/
import Derived.Test.YtjfkdglgecgjfaaGreatZRS16
namespace Go.Proofs.YtjfkdglgecgjfaaGreat.R
open Go
theorem Ze:CK [0,1,103,110,111,112,113,114,709,716,718,719,720,732,733,738,739,740,742,743,744,745,746,747,748,749,750,751,752,1186,1285,1292,1294,1297,1344,1364,1366,1373,1379,1380,2085,2454,2457,2458,2459,2460,2461,2463,2464,2465,2547,2587,2588,2842,2843,2891,3018] 0 (My.run Tryz.prog 28287)=some Mz.rt:=by kernel_rfl
end Go.Proofs.YtjfkdglgecgjfaaGreat.R
