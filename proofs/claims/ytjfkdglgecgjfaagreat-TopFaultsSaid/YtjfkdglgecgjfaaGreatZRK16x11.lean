/- Part of the proof. -/
import Derived.Test.YtjfkdglgecgjfaaGreatZRS16
namespace Go.Proofs.YtjfkdglgecgjfaaGreat.R
open Go
theorem Zc:CK [0,1,103,110,111,112,113,114,709,716,718,719,720,732,733,738,739,740,742,743,744,745,746,747,748,749,750,751,752,753,1186,1285,1292,1294,1297,1344,1364,1366,1373,1379,1380,2085,2454,2457] 0 (Mw.run Tryz.prog 20015)=some Mx.rt:=by kernel_rfl
end Go.Proofs.YtjfkdglgecgjfaaGreat.R
