/- Part of the proof. -/
import Derived.Test.YtjfkdglgecgjfaaGreatZRS16
namespace Go.Proofs.YtjfkdglgecgjfaaGreat.R
open Go
theorem abd:CK [0,1,103,110,111,112,113,114,709,716,718,719,720,732,733,738,739,740,742,743,744,745,746,747,748,749,750,751,752,753,754,755,756,758,1186,1285,1292,1294,1297,1344,1364,1366,1373,1379,1380,1383,1384,1385,1387,1505,1538,1571,1578,1585] 0 (T1.run Tryz.prog 29133)=some T3.rt:=by kernel_rfl
end Go.Proofs.YtjfkdglgecgjfaaGreat.R
