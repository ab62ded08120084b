/- The elements of slices, as the program's own table has them. -/
import Derived.Test.YtapagllebpcnhaaRows
import Derived.Test.YtapagllebpcnhaaOwn
namespace Go.Proofs.Ytapagllebpcnhaa
theorem elemB : Elem Try.prog 50 5 (.int .u8 0) 1 1 := Elem.mk' Try.underlying50 (by kernel_rfl) rfl (by decide) (by decide)
theorem elemI : Elem Try.prog 23 3 (.int .i64 0) 1 8 := Elem.mk' Try.underlying23 (by kernel_rfl) rfl (by decide) (by decide)
end Go.Proofs.Ytapagllebpcnhaa
