/- The queue of numbers: a heap behind an interface: how its methods are found. -/
import Derived.Test.YtapagllebpcnhaaElems
import Derived.BigQuiet
namespace Go.Proofs.Ytapagllebpcnhaa
open Go.RowKit

theorem meth_len (a : Addr) (w : World) : (method 185 58 (.pointer (some a)) "Len").run Try.prog w = (do let v ← loadVar 51 a; pure (59, v) : Sem (FuncId × Value)).run Try.prog w := by kernel_rfl
theorem meth_less (a : Addr) (w : World) : (method 185 58 (.pointer (some a)) "Less").run Try.prog w = (do let v ← loadVar 51 a; pure (60, v) : Sem (FuncId × Value)).run Try.prog w := by kernel_rfl
theorem meth_swap (a : Addr) (w : World) : (method 185 58 (.pointer (some a)) "Swap").run Try.prog w = (do let v ← loadVar 51 a; pure (61, v) : Sem (FuncId × Value)).run Try.prog w := by kernel_rfl
theorem meth_pop (a : Addr) (w : World) : (method 185 58 (.pointer (some a)) "Pop").run Try.prog w = .ok (62, .pointer (some a)) w := by kernel_rfl
theorem meth_push (a : Addr) (w : World) : (method 185 58 (.pointer (some a)) "Push").run Try.prog w = .ok (63, .pointer (some a)) w := by kernel_rfl

theorem loadQ {w : World} {a : Addr} {v : Value} (h : w.cell? a = some v) : (loadVar 51 a).run Try.prog w = .ok v w := by
  have hu := Try.underlying51
  simp [loadVar, h]
theorem meth_len' {w : World} {a : Addr} {v : Value} (h : w.cell? a = some v) : (method 185 58 (.pointer (some a)) "Len").run Try.prog w = .ok (59, v) w := by
  rw [meth_len, Sem.run_bind, loadQ h]; rfl
theorem meth_less' {w : World} {a : Addr} {v : Value} (h : w.cell? a = some v) : (method 185 58 (.pointer (some a)) "Less").run Try.prog w = .ok (60, v) w := by
  rw [meth_less, Sem.run_bind, loadQ h]; rfl
theorem meth_swap' {w : World} {a : Addr} {v : Value} (h : w.cell? a = some v) : (method 185 58 (.pointer (some a)) "Swap").run Try.prog w = .ok (61, v) w := by
  rw [meth_swap, Sem.run_bind, loadQ h]; rfl
theorem taInt (y : Int) (w : World) : (Instr.typeAssert (.iface 3 (.int .i64 y)) 20 3 false).run Try.prog w = .ok (.int .i64 y) w := by kernel_rfl
end Go.Proofs.Ytapagllebpcnhaa
