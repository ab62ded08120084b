/- The document's examples of layer 4 hold: 'lives' returns true, and changes nothing that was there. -/
import Derived.Test.YtkckabfbngkkpaaMatchFind
import Derived.Test.YtkckabfbngkkpaaMatchRun
import Derived.Lib.SlBytesConst
import Derived.Laws.BytesArg
namespace Go.Proofs.Ytkckabfbngkkpaa
open Go.RowKit

theorem ints_mark {k : IntKind} {E : TypeId} {w : World} {cs : Array Value} {f : Nat × Nat} (zs : List Int) (hw : ∀ z ∈ zs, (Lit.int k z).wf = true) (hcs : cs = (zs.map (Value.int k)).toArray) (hl : zs.length ≤ 1000) {n : Nat} (hn : n = zs.length) :
    Ints k (w.alloc (.cells cs E f)) (.slice (some ⟨w.heap.size, 0, none⟩) n n) zs := by
  subst hn
  subst hcs
  refine ⟨hw, some ⟨w.heap.size, 0, none⟩, zs.length, rfl, by omega, by unfold maxLen; omega, (fun h => by cases h), fun i hi => ⟨w.heap.size, 0, rfl, ?_⟩⟩
  rw [Nat.zero_add, cell_of_row _ _ i _ _ _ (heap_alloc_new w _)]
  simp [List.getD_eq_getElem?_getD, List.getElem?_eq_getElem hi]

theorem recs_one {m : Nat} {w : World} {cs : Array Value} {E : TypeId} {r : List Int} (hl : r.length = m) (hw : ∀ z ∈ r, (Lit.int .i64 z).wf = true) (hcs : cs = (r.map (Value.int .i64)).toArray) :
    Recs m (w.alloc (.cells cs E)) (.slice (some ⟨w.heap.size, 0, none⟩) 1 1) [r] := by
  subst hcs
  refine ⟨fun x hx => by simp at hx; subst hx; exact ⟨hl, hw⟩, some ⟨w.heap.size, 0, none⟩, 1, rfl, by simp, by unfold maxLen; omega, fun i hi => ⟨w.heap.size, 0, rfl, fun j hj => ?_⟩⟩
  obtain rfl : i = 0 := by simpa using hi
  rw [Nat.zero_mul, Nat.zero_add, World.cell?_alloc_new]
  simp [List.getD_eq_getElem?_getD, List.getElem?_eq_getElem (show j < r.length by omega)]

theorem find_lit : findS [97, 98, 99, 100, 97, 98, 99, 100, 97, 98, 99, 100] 100 0 0 = [[4, 8, 4]] := by
  rw [findS_lit (by decide) (by decide +kernel), findS_lit (by decide) (by decide +kernel), findS_lit (by decide) (by decide +kernel), findS_lit (by decide) (by decide +kernel), findS_step (by decide) (by decide +kernel)]
  rw [show best [97, 98, 99, 100, 97, 98, 99, 100, 97, 98, 99, 100] 100 (0 + 1 + 1 + 1 + 1) = (8, 4) by decide +kernel, findS_end (by decide)]
  rfl
theorem run_lit : runS 99 [[4, 8, 4]] [97, 98, 99, 100, 120] [] = ([97, 98, 99, 100, 97, 98, 99, 100, 97, 98, 99, 100, 120], 0) := by decide +kernel

set_option maxRecDepth 100000 in
set_option maxHeartbeats 2000000 in
theorem livesMatch (w : World) : Calls Try.prog 12 #[] w fun e w' => e = .returned (.bool true) ∧ Keeps w w' := by
  have kc := fun (w : World) (C : Array Value) (n c : Nat) => Lib.run_convert_bytes_const (P := Try.prog) w 22 5 C n c Try.underlying22 Try.underlying5
  go_enter Try.func12, Try.ntmps12
  go_wp2_with fail
  refine (matchFind (win := 100) (ints_mark [97, 98, 99, 100, 97, 98, 99, 100, 97, 98, 99, 100] (by decide) (by rfl) (by decide) (by decide)) (by decide) (by decide) (by decide)).mono ?_
  rintro e w2 ⟨v2, rfl, ho2, k2⟩
  rw [find_lit] at ho2
  have K2 : Hid (Keeps w w2) := ((Fr.refl _ _).alloc _).keeps k2
  obtain ⟨a2, c2, hv2⟩ := ho2.form
  subst hv2
  have HO2 := Lib.hid ho2
  clear ho2 k2
  go_wp2_with fail
  refine (matchRun (zs := [97, 98, 99, 100, 120]) (qs := [[4, 8, 4]]) (most := 99) ((ints_mark [97, 98, 99, 100, 120] (by decide) (by rfl) (by decide) (by decide)).keeps ((Fr.refl _ _).alloc _)) (by decide) ?_ (by decide) (by decide) (by decide)).mono ?_
  · have := recs_one (m := 3) (w := w2.alloc (.cells #[.int .u8 97, .int .u8 98, .int .u8 99, .int .u8 100, .int .u8 120] 5 (5, 6))) (E := 35) (r := [4, 8, 4]) rfl (by decide) rfl
    simpa using this
  rintro e w5 ⟨v5, rfl, ho5, k5⟩
  rw [run_lit] at ho5 ⊢
  have K5 : Hid (Keeps w2 w5) := (((Fr.refl _ _).alloc _).alloc _).keeps k5
  obtain ⟨g5, c5, hv5, _, _, _, _⟩ := ho5.formNe (by decide)
  subst hv5
  have hI := ho5.ints
  obtain ⟨_, _, _, hve, _, _, _, hc⟩ := hI
  cases hve
  have hconv := run_convert_bytes_arg (P := Try.prog) w5 22 5 Try.underlying22 Try.underlying5 g5 0 13 c5 [97, 98, 99, 100, 97, 98, 99, 100, 97, 98, 99, 100, 120] rfl (fun i hi => by
    obtain ⟨_, _, e, hcell⟩ := hc i hi
    cases e
    exact hcell) 9 Try.underlying9
  rw [show strOfNums [97, 98, 99, 100, 97, 98, 99, 100, 97, 98, 99, 100, 120] = ⟨#[97, 98, 99, 100, 97, 98, 99, 100, 97, 98, 99, 100, 120]⟩ from rfl] at hconv
  obtain ⟨_, lb, lo, hla, _, q0, q1, q2, hqe, d0, d1, d2, _, _, _⟩ := HO2.out.recs.row3 (k := 0) (by decide)
  cases hqe
  subst hla
  have d0 := K5.out.cell (fun h => h) d0
  have d1 := K5.out.cell (fun h => h) d1
  have d2 := K5.out.cell (fun h => h) d2
  simp only [Nat.zero_mul, Nat.add_zero] at d0 d1 d2
  clear hc ho5 k5
  go_wp2_with fail
  go_ret
  go_light
  exact ⟨rfl, K2.out.keeps K5.out⟩
end Go.Proofs.Ytkckabfbngkkpaa
