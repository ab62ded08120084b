/- The queue of things: a heap behind an interface: how its methods are found. -/
import Derived.Test.YtbbljpkboojjhaaElems
import Derived.BigQuiet
namespace Go.Proofs.Ytbbljpkboojjhaa
open Go.RowKit

theorem meth_len (a : Addr) (w : World) : (method 207 65 (.pointer (some a)) "Len").run Try.prog w = (do let v ← loadVar 61 a; pure (62, v) : Sem (FuncId × Value)).run Try.prog w := by kernel_rfl
theorem meth_less (a : Addr) (w : World) : (method 207 65 (.pointer (some a)) "Less").run Try.prog w = (do let v ← loadVar 61 a; pure (63, v) : Sem (FuncId × Value)).run Try.prog w := by kernel_rfl
theorem meth_swap (a : Addr) (w : World) : (method 207 65 (.pointer (some a)) "Swap").run Try.prog w = (do let v ← loadVar 61 a; pure (64, v) : Sem (FuncId × Value)).run Try.prog w := by kernel_rfl
theorem meth_pop (a : Addr) (w : World) : (method 207 65 (.pointer (some a)) "Pop").run Try.prog w = .ok (65, .pointer (some a)) w := by kernel_rfl
theorem meth_push (a : Addr) (w : World) : (method 207 65 (.pointer (some a)) "Push").run Try.prog w = .ok (66, .pointer (some a)) w := by kernel_rfl

theorem loadQ {w : World} {a : Addr} {v : Value} (h : w.cell? a = some v) : (loadVar 61 a).run Try.prog w = .ok v w := by
  have _hu := Try.underlying61
  simp [loadVar, h]
theorem meth_len' {w : World} {a : Addr} {v : Value} (h : w.cell? a = some v) : (method 207 65 (.pointer (some a)) "Len").run Try.prog w = .ok (62, v) w := by
  rw [meth_len, Sem.run_bind, loadQ h]; rfl
theorem meth_less' {w : World} {a : Addr} {v : Value} (h : w.cell? a = some v) : (method 207 65 (.pointer (some a)) "Less").run Try.prog w = .ok (63, v) w := by
  rw [meth_less, Sem.run_bind, loadQ h]; rfl
theorem meth_swap' {w : World} {a : Addr} {v : Value} (h : w.cell? a = some v) : (method 207 65 (.pointer (some a)) "Swap").run Try.prog w = .ok (64, v) w := by
  rw [meth_swap, Sem.run_bind, loadQ h]; rfl
theorem taThing (y : Value) (w : World) : (Instr.typeAssert (.iface 63 y) 20 63 false).run Try.prog w = .ok y w := by kernel_rfl
theorem naLen (a : Addr) (w : World) : (nilAhead 207 65 (.pointer (some a)) "Len").run Try.prog w = .ok (some false) w := by kernel_rfl
theorem naLess (a : Addr) (w : World) : (nilAhead 207 65 (.pointer (some a)) "Less").run Try.prog w = .ok (some false) w := by kernel_rfl
theorem naSwap (a : Addr) (w : World) : (nilAhead 207 65 (.pointer (some a)) "Swap").run Try.prog w = .ok (some false) w := by kernel_rfl
theorem naPop (a : Addr) (w : World) : (nilAhead 207 65 (.pointer (some a)) "Pop").run Try.prog w = .ok (some false) w := by kernel_rfl
theorem naPush (a : Addr) (w : World) : (nilAhead 207 65 (.pointer (some a)) "Push").run Try.prog w = .ok (some false) w := by kernel_rfl
end Go.Proofs.Ytbbljpkboojjhaa
