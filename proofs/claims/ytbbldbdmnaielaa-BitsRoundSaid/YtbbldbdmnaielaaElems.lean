/- The elements of slices, as the program's own table has them. -/
import Derived.Test.YtbbldbdmnaielaaRows
import Derived.Test.YtbbldbdmnaielaaOwn
namespace Go.Proofs.Ytbbldbdmnaielaa
theorem elemB : Elem Try.prog 22 5 (.int .u8 0) 1 1 := Elem.mk' Try.underlying22 (by kernel_rfl) rfl (by decide) (by decide)
theorem elemI : Elem Try.prog 31 3 (.int .i64 0) 1 8 := Elem.mk' Try.underlying31 (by kernel_rfl) rfl (by decide) (by decide)
end Go.Proofs.Ytbbldbdmnaielaa
