/- An array of 256 numbers in memory: made, read whole, written whole. -/
import Derived.Test.YtbbljpkboojjhaaHfMayS
import Derived.Laws.Rows
namespace Go.Proofs.Ytbbljpkboojjhaa
open Go.RowKit

theorem run_allocZ {P : Program} {t : TypeId} {i : TypeInfo} {z : Value} (hi : P.info? t = some i) (hz : i.zero = some z) (w : World) :
    (Instr.alloc t true (.tuple #[])).run P w = .ok (.pointer (some ⟨w.heap.size, 0, none⟩)) (w.alloc (.cells z.cells t)) := by
  simp [Instr.alloc, zeroValue, typeInfo, hi, hz, newVar, newRow]
theorem wpList_allocZ {P : Program} {ops : Array Oper} {rest : List Oper} {o : Oper} {a : Act} {w : World} {Q : Exit → Act → World → Prop} (hgd : o.guard = none) (t : TypeId) (ho : o.op = .alloc t) {i : TypeInfo} {z : Value} (hi : P.info? t = some i) (hz : i.zero = some z)
    (h : wpList P ops Q rest (a.put o.dst (.pointer (some ⟨w.heap.size, 0, none⟩))) (w.alloc (.cells z.cells t))) : wpList P ops Q (o :: rest) a w :=
  wpList_plain hgd fun _ hK => by
    unfold Oper.wp execOp
    simp only [ho, Sem.run_bind, run_allocZ hi hz w, Result.andThen_ok]
    exact hK _ _ h

def cells256 (zs : List Int) : Array Value := (zs.map (Value.int .i64)).toArray
theorem cells256_size (zs : List Int) : (cells256 zs).size = zs.length := by simp [cells256]
theorem cells256_get (zs : List Int) {i : Nat} (h : i < zs.length) : (cells256 zs)[i]? = some (.int .i64 (zs.getD i 0)) := by
  simp [cells256, List.getD_eq_getElem?_getD, h]
theorem cells256_set (zs : List Int) (i : Nat) (y : Int) : (cells256 zs).setIfInBounds i (.int .i64 y) = cells256 (zs.set i y) := by
  unfold cells256
  rw [List.map_set]
  simp
theorem cells256_one (zs : List Int) : (cells256 zs).all (·.oneCell') = true := by
  rw [Array.all_eq_true_iff_forall_mem]
  intro x hx
  simp [cells256] at hx
  obtain ⟨y, _, rfl⟩ := hx
  rfl
theorem zero256 : (Try.prog.info? 43).bind (fun i => i.zero) = some (.agg (cells256 (List.replicate 256 0))) := by kernel_rfl
theorem size256 : (Try.prog.info? 43).map (fun i => i.size) = some 256 := by kernel_rfl
theorem info256 : ∃ i, Try.prog.info? 43 = some i ∧ i.zero = some (.agg (cells256 (List.replicate 256 0))) := by
  have h := zero256
  cases hi : Try.prog.info? 43 with
  | none => rw [hi] at h; cases h
  | some i => rw [hi] at h; exact ⟨i, rfl, h⟩
end Go.Proofs.Ytbbljpkboojjhaa
