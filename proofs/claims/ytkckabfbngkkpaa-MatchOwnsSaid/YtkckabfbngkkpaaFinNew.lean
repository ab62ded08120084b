/- A new finder: what its block holds. -/
import Derived.Test.YtkckabfbngkkpaaFinLink
import Derived.Laws.Tables
namespace Go.Proofs.Ytkckabfbngkkpaa
open Go.RowKit

def isZ : Value → Bool
  | .int .i64 z => z == 0
  | _ => false
theorem isZ_eq {v : Value} (h : isZ v = true) : v = .int .i64 0 := by
  unfold isZ at h
  split at h
  · rw [beq_iff_eq] at h; rw [h]
  · cases h
theorem undFinder : (match Try.prog.underlying 44 with | some (.struct fs) => fs.toList.mapM (fun f => (Try.prog.info? f.type).map fun i => (f.offset, i.size)) | _ => none) = some [(0, 1), (1, 1), (2, 4096), (4098, 1), (4099, 1)] := by kernel_rfl
theorem zeroFinder : ((Try.prog.info? 44).bind (fun i => i.zero)).map (fun z => (z.cells.toList.length, ((z.cells.toList.drop 2).take 4096).all isZ, (z.cells.toList.drop 4099).all isZ)) = some (4100, true, true) := by kernel_rfl

theorem builtFinder (a b c : Value) (ha : a.cells = #[a]) (hb : b.cells = #[b]) (hc : c.cells = #[c]) :
    ∃ C : Array Value, Try.prog.built 44 [(0, a), (1, b), (3, c)] = some C ∧ C.size = 4100 ∧ C[0]? = some a ∧ C[1]? = some b ∧ (∀ m, m < 4096 → C[2 + m]? = some (.int .i64 0)) ∧ C[4098]? = some c ∧ C[4099]? = some (.int .i64 0) := by
  have h1 := undFinder
  have h2 := zeroFinder
  cases hi : Try.prog.info? 44 with
  | none => simp [hi] at h2
  | some it =>
    cases hz : it.zero with
    | none => simp [hi, hz] at h2
    | some z =>
      simp only [hi, hz, Option.bind_some, Option.map_some, Option.some.injEq, Prod.mk.injEq] at h2
      obtain ⟨g1, g2, g3⟩ := h2
      have hs : z.cells.size = 4100 := by rw [← g1]; rfl
      rw [List.all_eq_true] at g2 g3
      cases hu : Try.prog.underlying 44 with
      | none => simp [hu] at h1
      | some d =>
        cases d <;> try (simp [hu] at h1; done)
        case struct fs =>
          simp only [hu] at h1
          refine ⟨((z.cells.setIfInBounds 0 a).setIfInBounds 1 b).setIfInBounds 4098 c, ?_, by simp [hs], ?_, ?_, fun m hm => ?_, ?_, ?_⟩
          · simp [Program.built, hi, hz, hu, h1, Instr.fill, ha, hb, hc, hs]
          · simp [Array.getElem?_setIfInBounds, hs]
          · simp [Array.getElem?_setIfInBounds, hs]
          · rw [Array.getElem?_setIfInBounds_ne (by omega), Array.getElem?_setIfInBounds_ne (by omega), Array.getElem?_setIfInBounds_ne (by omega)]
            have hl : 2 + m < z.cells.size := by omega
            rw [Array.getElem?_eq_getElem hl]
            congr 1
            refine isZ_eq (g2 _ ?_)
            refine List.mem_iff_getElem?.2 ⟨m, ?_⟩
            rw [List.getElem?_take, if_pos hm, List.getElem?_drop, Array.getElem?_toList, Array.getElem?_eq_getElem hl]
          · simp [Array.getElem?_setIfInBounds, hs]
          · rw [Array.getElem?_setIfInBounds_ne (by omega), Array.getElem?_setIfInBounds_ne (by omega), Array.getElem?_setIfInBounds_ne (by omega)]
            have hl : 4099 < z.cells.size := by omega
            rw [Array.getElem?_eq_getElem hl]
            congr 1
            refine isZ_eq (g3 _ ?_)
            refine List.mem_iff_getElem?.2 ⟨0, ?_⟩
            rw [List.getElem?_drop, Array.getElem?_toList, Array.getElem?_eq_getElem (show 4099 + 0 < z.cells.size by omega)]

theorem Fin4.fr {S : Nat → Prop} {w w' : World} {b : Nat} {dv : Value} {win g : Nat} {zs : List Int} {K : Nat} (h : Fin4 w b dv win g zs K) (f : Fr S w w') (hb : b < w.heap.size) (hg : g < w.heap.size) (hsb : ¬ S b) (hsg : ¬ S g)
    (hd : ∀ x n c, dv = .slice (some x) n c → 0 < n → ¬ S x.block) : Fin4 w' b dv win g zs K where
  d0 := f.cell hsb h.d0
  d1 := f.cell hsb h.d1
  dh m hm := f.cell hsb (h.dh m hm)
  da := f.cell hsb h.da
  dk := f.cell hsb h.dk
  dp p hp := f.cell hsg (h.dp p hp)
  dc p hp := by
    obtain ⟨z, hz⟩ := h.dc p hp
    exact ⟨z, f.cell hsg hz⟩
  fb i := (f.frozen (p := ⟨b, i, none⟩) hsb hb).trans (h.fb i)
  fg i := (f.frozen (p := ⟨g, i, none⟩) hsg hg).trans (h.fg i)
  ints := h.ints.fr f hd
  bg := h.bg
  db := h.db

theorem wpList_built3 {P : Program} {ops : Array Oper} {rest : List Oper} {o : Oper} {a : Act} {w : World} {Q : Exit → Act → World → Prop} {cs : Array Value} (hg : o.guard = none) (t : TypeId) (i0 i1 i2 : Nat) (x0 x1 x2 : Operand)
    (ho : o.op = .build t #[(i0, x0), (i1, x1), (i2, x2)]) (v0 v1 v2 : Value) (e0 : a.eval x0 = v0) (e1 : a.eval x1 = v1) (e2 : a.eval x2 = v2) (hf : P.built t [(i0, v0), (i1, v1), (i2, v2)] = some cs)
    (h : wpList P ops Q rest (a.put o.dst (.agg cs)) w) : wpList P ops Q (o :: rest) a w := by
  have hf' : P.built t ((#[(i0, x0), (i1, x1), (i2, x2)] : Array (Nat × Operand)).map fun (i, x) => (i, a.eval x)).toList = some cs := by
    simp only [List.map_toArray, List.map_cons, List.map_nil, e0, e1, e2]
    exact hf
  exact wpList_build hg t _ ho (by rw [hf']; rfl) (by rw [hf']; exact h)

/-- The two blocks just made are a finder that has linked nothing. -/
theorem Fin4.new {w : World} {dv : Value} {win : Nat} {zs : List Int} {C : Array Value} {E T : TypeId} (hi : Ints .u8 w dv zs) 
    (h0 : C[0]? = some dv) (h1 : C[1]? = some (.int .i64 win)) (hh : ∀ m, m < 4096 → C[2 + m]? = some (.int .i64 0)) (ha : C[4098]? = some (.slice (some ⟨w.heap.size, 0, none⟩) zs.length zs.length)) (hk : C[4099]? = some (.int .i64 0)) :
    Fin4 ((w.alloc (.cells (madeCells #[.int .i64 0] zs.length) E)).alloc (.cells C T)) (w.heap.size + 1) dv win w.heap.size zs 0 := by
  have hb : ((w.alloc (.cells (madeCells #[.int .i64 0] zs.length) E)).alloc (.cells C T)).heap[w.heap.size + 1]? = some (.cells C T (0, 0)) := by
    have := heap_alloc_new (w.alloc (.cells (madeCells #[.int .i64 0] zs.length) E)) (.cells C T)
    simpa using this
  have hg : ((w.alloc (.cells (madeCells #[.int .i64 0] zs.length) E)).alloc (.cells C T)).heap[w.heap.size]? = some (.cells (madeCells #[.int .i64 0] zs.length) E (0, 0)) :=
    ((Fr.refl (fun _ => False) _).alloc _).heap (fun h => h) (heap_alloc_new w _)
  have hgp : ∀ p, p < zs.length → ((w.alloc (.cells (madeCells #[.int .i64 0] zs.length) E)).alloc (.cells C T)).cell? ⟨w.heap.size, p, none⟩ = some (.int .i64 0) := fun p hp => by
    rw [cell_of_row _ _ p _ _ _ hg]
    simp [madeCells, hp, Nat.mod_one]
  refine ⟨?_, ?_, fun m hm => ?_, ?_, ?_, fun p hp => ?_, fun p hp => ⟨0, hgp p hp⟩, fun i => frozen_no hb i, fun i => frozen_no hg i, hi.keeps (((Fr.refl _ _).alloc _).alloc _), by omega, fun x n c hx hn => ?_⟩
  · rw [cell_of_row _ _ 0 _ _ _ hb, h0]
  · rw [cell_of_row _ _ 1 _ _ _ hb, h1]
  · rw [cell_of_row _ _ (2 + m) _ _ _ hb, hh m hm]; rfl
  · rw [cell_of_row _ _ 4098 _ _ _ hb, ha]
  · rw [cell_of_row _ _ 4099 _ _ _ hb, hk]; rfl
  · omega
  · obtain ⟨_, a, cap, hv, _, _, _, hc⟩ := hi
    rw [hx] at hv
    cases hv
    obtain ⟨xb, off, e, hcell⟩ := hc 0 hn
    cases e
    have := World.block_lt_of_cell? _ _ hcell
    simp only at this
    exact ⟨by simp only; omega, by simp only; omega⟩
end Go.Proofs.Ytkckabfbngkkpaa
