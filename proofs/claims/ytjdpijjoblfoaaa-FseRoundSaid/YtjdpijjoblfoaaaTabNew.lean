/- A new table: what its block holds; a row copied. -/
import Derived.Test.YtjdpijjoblfoaaaFseX
import Derived.Test.YtjdpijjoblfoaaaTab
import Derived.Test.YtjdpijjoblfoaaaLenX
import Derived.Laws.Tables
import Derived.BigQuiet
import Derived.Deep.RegionLaw
import Derived.Deep.RegionHeld3
import Derived.Laws.Cover3
namespace Go.Proofs.Ytjdpijjoblfoaaa
open Go.RowKit

def isZ : Value → Bool
  | .int .i64 z => z == 0
  | _ => false
theorem isZ_eq {v : Value} (h : isZ v = true) : v = .int .i64 0 := by
  unfold isZ at h
  split at h
  · rw [beq_iff_eq] at h; rw [h]
  · cases h
def isN : Value → Bool
  | .slice none n c => n == 0 && c == 0
  | _ => false
theorem isN_eq {v : Value} (h : isN v = true) : v = .slice none 0 0 := by
  unfold isN at h
  split at h
  · rw [Bool.and_eq_true, beq_iff_eq, beq_iff_eq] at h; rw [h.1, h.2]
  · cases h
theorem undTable : (match Try.prog.underlying 55 with | some (.struct fs) => fs.toList.mapM (fun f => (Try.prog.info? f.type).map fun i => (f.offset, i.size)) | _ => none) = some [(0, 1536), (1536, 64), (1600, 1)] := by kernel_rfl
theorem zeroTable : ((Try.prog.info? 55).bind (fun i => i.zero)).map (fun z => (z.cells.toList.length, (z.cells.toList.take 1536).all isZ, ((z.cells.toList.drop 1536).take 64).all isN)) = some (1601, true, true) := by kernel_rfl

theorem builtTable (c : Value) (hc : c.cells = #[c]) :
    ∃ C : Array Value, Try.prog.built 55 [(2, c)] = some C ∧ C.size = 1601 ∧ (∀ m, m < 1536 → C[m]? = some (.int .i64 0)) ∧ (∀ m, m < 64 → C[1536 + m]? = some (.slice none 0 0)) ∧ C[1600]? = some c := by
  have h1 := undTable
  have h2 := zeroTable
  cases hi : Try.prog.info? 55 with
  | none => simp [hi] at h2
  | some it =>
    cases hz : it.zero with
    | none => simp [hi, hz] at h2
    | some z =>
      simp only [hi, hz, Option.bind_some, Option.map_some, Option.some.injEq, Prod.mk.injEq] at h2
      obtain ⟨g1, g2, g3⟩ := h2
      have hs : z.cells.size = 1601 := by rw [← g1]; rfl
      rw [List.all_eq_true] at g2 g3
      cases hu : Try.prog.underlying 55 with
      | none => simp [hu] at h1
      | some d =>
        cases d <;> try (simp [hu] at h1; done)
        case struct fs =>
          simp only [hu] at h1
          refine ⟨z.cells.setIfInBounds 1600 c, ?_, by simp [hs], fun m hm => ?_, fun m hm => ?_, ?_⟩
          · simp [Program.built, hi, hz, hu, h1, Instr.fill, hc, hs]
          · rw [Array.getElem?_setIfInBounds_ne (by omega)]
            have hl : m < z.cells.size := by omega
            rw [Array.getElem?_eq_getElem hl]
            congr 1
            refine isZ_eq (g2 _ ?_)
            refine List.mem_iff_getElem?.2 ⟨m, ?_⟩
            rw [List.getElem?_take, if_pos hm, Array.getElem?_toList, Array.getElem?_eq_getElem hl]
          · rw [Array.getElem?_setIfInBounds_ne (by omega)]
            have hl : 1536 + m < z.cells.size := by omega
            rw [Array.getElem?_eq_getElem hl]
            congr 1
            refine isN_eq (g3 _ ?_)
            refine List.mem_iff_getElem?.2 ⟨m, ?_⟩
            rw [List.getElem?_take, if_pos hm, List.getElem?_drop, Array.getElem?_toList, Array.getElem?_eq_getElem hl]
          · simp [hs]
theorem wpList_built1 {P : Program} {ops : Array Oper} {rest : List Oper} {o : Oper} {a : Act} {w : World} {Q : Exit → Act → World → Prop} {cs : Array Value} (hg : o.guard = none) (t : TypeId) (i0 : Nat) (x0 : Operand)
    (ho : o.op = .build t #[(i0, x0)]) (v0 : Value) (e0 : a.eval x0 = v0) (hf : P.built t [(i0, v0)] = some cs)
    (h : wpList P ops Q rest (a.put o.dst (.agg cs)) w) : wpList P ops Q (o :: rest) a w := by
  have hf' : P.built t ((#[(i0, x0)] : Array (Nat × Operand)).map fun (i, x) => (i, a.eval x)).toList = some cs := by
    simp only [List.map_toArray, List.map_cons, List.map_nil, e0]
    exact hf
  exact wpList_build hg t _ ho (by rw [hf']; rfl) (by rw [hf']; exact h)

set_option maxRecDepth 100000 in
set_option maxHeartbeats 1000000 in
theorem cloneInts {v : Value} {zs : List Int} {w : World} (h : Ints .i64 w v zs) (hz : zs.length ≤ 1048576) (h0 : 0 < zs.length) :
    Calls Try.prog 46 #[v] w fun e w' => ∃ v', e = .returned v' ∧ Own .i64 3 w.heap.size w' v' zs ∧ Keeps w w' := by
  have HI := Lib.hid h
  obtain ⟨_, a, cap, rfl, _, _, _, hc⟩ := h
  obtain ⟨b, off, ha, _⟩ := hc 0 h0
  subst ha
  obtain ⟨N, hN⟩ : ∃ N, N = zs.length := ⟨_, rfl⟩
  rw [← hN] at hz HI ⊢
  have HN := Lib.hid hN
  clear hc hN
  go_enter Try.func46, Try.ntmps46
  have heq : (binOp .eql 22 (.slice (some ⟨b, off, none⟩) N cap) (.slice none 0 0)).run Try.prog w = .ok (.bool false) w := by
    simp only [binOp]
    simp [run_equal_slice_nil w 22 3 _ N cap Try.underlying22]
  have HE0 : Hid (Own .i64 3 w.heap.size (w.alloc (.cells #[] 3)) (.slice (some ⟨w.heap.size, 0, none⟩) 0 0) []) :=
    ⟨fun z hz => by simp at hz, by simp, .inr ⟨w.heap.size, 0, #[], by simp, Nat.le_refl _, heap_alloc_new w _, by simp, by unfold maxLen; omega, by simp, by simp⟩⟩
  go_wp2_with (at_builtin; go_loud (refine wpList_ints rfl (.tmp 5) (.tmp 6) rfl elemI (.slice (some ⟨w.heap.size, 0, none⟩) 0 0) rfl rfl HE0.out (HI.out.keeps ((Fr.refl _ _).alloc _)) (by rw [← HN.out]; simp; omega) (by simp) ?_); intro v1 w1 hown1 hfr1 hat1; have H1 := Lib.hid hown1; have F1 := Lib.hid hfr1; clear hown1 hfr1 hat1)
  go_ret
  go_light
  refine ⟨_, rfl, by have := H1.out; rw [List.nil_append] at this; exact this, Fr.trans (S := fun _ => False) ((Fr.refl _ _).alloc _) F1.out (fun i hi h => by have h : some w.heap.size = some i := h; cases h; omega)⟩
end Go.Proofs.Ytjdpijjoblfoaaa
