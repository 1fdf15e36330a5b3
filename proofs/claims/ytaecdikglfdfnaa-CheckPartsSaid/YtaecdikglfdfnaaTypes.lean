/- What is known of the types of this translation. -/
import Derived.Test.YtaecdikglfdfnaaRows
import Derived.Test.YtaecdikglfdfnaaOwn
namespace Go.Proofs.Ytaecdikglfdfnaa
open Go.RowKit
theorem byT : ElemT Try.prog 24 5 (.int .u8 0) 1 1 := ⟨by kernel_rfl, by kernel_rfl, rfl, by omega⟩
theorem und8 : Try.prog.underlying 5 = some (.int .u8) := by kernel_rfl
theorem undS : Try.prog.underlying 9 = some .string := by kernel_rfl
end Go.Proofs.Ytaecdikglfdfnaa
