/- The elements of slices, as the program's own table has them. -/
import Derived.Test.YtkckabfbngkkpaaRows
import Derived.Test.YtkckabfbngkkpaaOwn
namespace Go.Proofs.Ytkckabfbngkkpaa
theorem elemB : Elem Try.prog 22 5 (.int .u8 0) 1 1 := Elem.mk' Try.underlying22 (by kernel_rfl) rfl (by decide) (by decide)
theorem elemI : Elem Try.prog 41 3 (.int .i64 0) 1 8 := Elem.mk' Try.underlying41 (by kernel_rfl) rfl (by decide) (by decide)
end Go.Proofs.Ytkckabfbngkkpaa
