/- Part of the proof. -/
import Derived.Test.YtjfkdglgecgjfaaGreatZRS16
namespace Go.Proofs.YtjfkdglgecgjfaaGreat.R
open Go
theorem abc:CK [0,1,103,110,111,112,113,114,709,716,718,719,720,732,733,738,739,740,742,743,744,745,746,747,748,749,750,751,752,753,754,755,756,758,759,760,842,882,883,1137,1138,1139,1141,1142] 0 (Kc.run Tryz.prog 29522)=some T1.rt:=by kernel_rfl
end Go.Proofs.YtjfkdglgecgjfaaGreat.R
