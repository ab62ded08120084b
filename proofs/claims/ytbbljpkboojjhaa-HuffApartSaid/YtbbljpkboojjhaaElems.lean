/- The elements of slices, as the program's own table has them. -/
import Derived.Test.YtbbljpkboojjhaaRows
import Derived.Test.YtbbljpkboojjhaaOwn
namespace Go.Proofs.Ytbbljpkboojjhaa
theorem elemB : Elem Try.prog 29 5 (.int .u8 0) 1 1 := Elem.mk' Try.underlying29 (by kernel_rfl) rfl (by decide) (by decide)
theorem elemI : Elem Try.prog 22 3 (.int .i64 0) 1 8 := Elem.mk' Try.underlying22 (by kernel_rfl) rfl (by decide) (by decide)
end Go.Proofs.Ytbbljpkboojjhaa
