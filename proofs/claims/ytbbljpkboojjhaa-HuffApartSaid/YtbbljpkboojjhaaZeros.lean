/- Zeros appended to an owned row of numbers (append(s, make([]int, m)...)). -/
import Derived.Test.YtbbljpkboojjhaaElems
import Derived.Lib.AppendZerosOnto
namespace Go.Proofs.Ytbbljpkboojjhaa
open Go.RowKit

theorem zeroCells_list (m : Nat) : (Builtin.zeroCells #[Value.int .i64 0] m).toList = List.replicate m (.int .i64 0) := by
  apply List.ext_getElem
  · simp [Builtin.zeroCells]
  · intro i h1 h2
    simp [Builtin.zeroCells, Nat.mod_one]
theorem run_zeros {P : Program} {w : World} {t tn ty e : TypeId} {i : TypeInfo} (ht : P.underlying t = some (.slice e)) (htn : P.underlying tn = some (.int .i64)) (hi : P.info? e = some i) (hz : i.zero = some (.int .i64 0)) (hs : i.size = 1) (hb : i.bytes = 8)
    {B n m : Nat} {v : Value} {xs : List Value} (hown : w.ownsRow B e 1 v n xs) (hm : 0 < m) (hroom : (n + m) * 8 ≤ 140737488355328) (hB : B ≤ w.heap.size) :
    ∃ v' w', (Builtin.append_ #[t, tn] ty #[v, .int .i64 m]).run P w = .ok v' w' ∧ w'.ownsRow B e 1 v' (n + m) (xs ++ List.replicate m (.int .i64 0)) ∧ Fr (fun j => v.ownBlock = some j) w w' := by
  have hlen : (xs ++ List.replicate m (Value.int .i64 0)).length = (n + m) * 1 := by rw [List.length_append, hown.1, List.length_replicate]; omega
  have h63 : n + m ≤ maxLen := by unfold maxLen; omega
  have hzc : (Value.int .i64 0).cells = #[.int .i64 0] := rfl
  have grown : ∀ (old : Nat) (R : Nat → Prop),
      (w.drew.alloc (.cells (xs.toArray ++ Builtin.zeroCells #[.int .i64 0] m ++ Builtin.zeroCells #[.int .i64 0] (grownCap w (n + m) old e - (n + m))) e)).ownsRow B e 1
        (.slice (some ⟨w.heap.size, 0, none⟩) (n + m) (grownCap w (n + m) old e)) (n + m) (xs ++ List.replicate m (.int .i64 0)) ∧
      Fr R w (w.drew.alloc (.cells (xs.toArray ++ Builtin.zeroCells #[.int .i64 0] m ++ Builtin.zeroCells #[.int .i64 0] (grownCap w (n + m) old e - (n + m))) e)) := by
    intro old R
    have hge := grownCap_ge w (n + m) old e
    have hcm : grownCap w (n + m) old e ≤ maxLen := grownCap_le_maxLen w (n + m) old e h63
    refine ⟨⟨hlen, .inr ⟨w.heap.size, _, _, rfl, hB, heap_alloc_new w.drew _, hge, hcm, ?_, ?_⟩⟩, (Fr.refl R w).drew.alloc _⟩
    · simp only [Array.size_append, List.size_toArray, size_zeroCells, hown.1]
      simp
      omega
    · simp only [Array.toList_append, List.append_assoc, zeroCells_list]
      rw [← List.append_assoc, ← hlen]
      exact List.take_left
  rcases hown.2 with ⟨rfl, rfl⟩ | ⟨g, cap, cur, rfl, hbg, hg, hnc, hcm, hcs, htake⟩
  · have hx : xs = [] := List.eq_nil_of_length_eq_zero (by simpa using hown.1)
    subst hx
    have hr := Lib.run_append_nil_zeros (P := P) w t tn ty e i (.int .i64 0) .i64 .i64 ht htn hi hz m hm (by omega) (by omega) (by rw [hb]; omega)
    have hgr := grown 0 (fun j => (Value.slice none 0 0).ownBlock = some j)
    simp only [Nat.zero_add, List.nil_append, hzc] at hgr hr ⊢
    refine ⟨_, _, hr, ?_⟩
    simpa using hgr
  · by_cases hrm : n + m ≤ cap
    · have hst := run_storeCells_at P g n e (List.replicate m (Value.int .i64 0)) 0 cur w hg (by simp; omega) (fun u hu => by rw [List.eq_of_mem_replicate hu]; rfl)
      simp only [Nat.add_zero, List.length_replicate] at hst
      have hr : (Builtin.append_ #[t, tn] ty #[.slice (some ⟨g, 0, none⟩) n cap, .int .i64 m]).run P w = .ok (.slice (some ⟨g, 0, none⟩) (n + m) cap) (w.setRow g (cur.toList.take n ++ List.replicate m (Value.int .i64 0) ++ cur.toList.drop (n + m)).toArray) := by
        have hw : IntKind.i64.wrap (m : Int) = m := by rw [IntKind.wrap_i64]; omega
        have h48i : ¬ (281474976710656 < (m : Int) * (8 : Int)) := by omega
        have hneg : ¬ ((m : Int) < 0) := by omega
        have hm0 : ¬ m = 0 := by omega
        simp [Builtin.append_, run_underlying ht, run_underlying htn, sizeOf, typeInfo, zeroValue, hi, hz, hs, hb, asInt, asIntOf, hw, h48i, hneg, hm0, hrm, zeroCells_list, hzc, Addr.add_lit, hst]
      refine ⟨_, _, hr, ⟨hlen, .inr ⟨g, cap, _, rfl, hbg, setRow_heap w g cur _ e _ hg, hrm, hcm, ?_, ?_⟩⟩, ⟨rfl, rfl, rfl, by simp, fun k _ hk => setRow_other w g k _ (fun e => hk (by simp [Value.ownBlock, e]))⟩⟩
      · simp only [List.size_toArray, List.length_append, List.length_take, List.length_drop, Array.length_toList, List.length_replicate]
        omega
      · rw [Nat.mul_one] at htake
        rw [htake, ← hlen]
        exact List.take_left
    · have holds : (Builtin.firstCells i.size n (.slice (some ⟨g, 0, none⟩) n cap)).run P w.drew = .ok xs.toArray w.drew :=
        run_firstCells_some (P := P) w.drew i.size n ⟨g, 0, none⟩ n cap xs (by rw [hs]; exact hown.1) (hown.cells (g := g) rfl)
      have hfit : Builtin.nextslicecap (n + m) cap * i.bytes ≤ 281474976710656 := growslice_fits (by omega) (by rw [hb]; exact hroom)
      have hr := Lib.run_append_grow_zeros (P := P) w t tn ty e i (.int .i64 0) .i64 .i64 ht htn hi hz (some ⟨g, 0, none⟩) n cap xs holds m hm (by omega) (by omega) (by omega) (by rw [hb]; omega) hfit
      have hgr := grown cap (fun j => (Value.slice (some ⟨g, 0, none⟩) n cap).ownBlock = some j)
      rw [hzc] at hr
      exact ⟨_, _, hr, hgr⟩

theorem wpList_zeros {P : Program} {w : World} {t tn e : TypeId} {ops : Array Oper} {rest : List Oper} {o : Oper} {a : Act} {Q : Exit → Act → World → Prop} (hgd : o.guard = none) (s x : Operand)
    (ho : o.op = .call { callee := .builtin .append, args := #[s, x], argTypes := #[t, tn] }) (he : Elem P t e (.int .i64 0) 1 8) (htn : P.underlying tn = some (.int .i64)) {B m : Nat} {zs : List Int} (v : Value) (hs : a.eval s = v) (hx : a.eval x = .int .i64 (m : Int)) (hown : Own .i64 e B w v zs) (hm : 0 < m)
    (hroom : (zs.length + m) * 8 ≤ 140737488355328) (hB : B ≤ w.heap.size)
    (h : ∀ v' w', Own .i64 e B w' v' (zs ++ List.replicate m 0) → Fr (fun j => v.ownBlock = some j) w w' → wpList P ops Q rest (a.put o.dst v') w') : wpList P ops Q (o :: rest) a w := by
  obtain ⟨hund, ⟨i, hi, hz0, hz1, hz2⟩, _⟩ := he
  obtain ⟨v', w', hr, h2, h3⟩ := run_zeros (P := P) (w := w) (ty := o.type) hund htn hi hz0 hz1 hz2 hown.2 hm hroom hB
  refine Lib.wpList_append_run w hgd s x t tn ho v (.int .i64 m) hs hx v' w' hr (h v' w' ⟨fun y hy => ?_, ?_⟩ h3)
  · rcases List.mem_append.1 hy with hy | hy
    · exact hown.1 y hy
    · rw [List.eq_of_mem_replicate hy]; decide
  · simpa using h2
end Go.Proofs.Ytbbljpkboojjhaa
