/- A slice of structs of m whole numbers, read as a list of rows; and from what the frame knows of an argument. -/
import Derived.Test.YtkckabfbngkkpaaOwn
import Derived.Deep.SlicePairs
namespace Go.Proofs.Ytkckabfbngkkpaa
open Go.RowKit Go.ChangeShapes

def Recs (m : Nat) (w : World) (v : Value) (rs : List (List Int)) : Prop :=
  (∀ r ∈ rs, r.length = m ∧ ∀ z ∈ r, (Lit.int .i64 z).wf = true) ∧
  ∃ a cap, v = .slice a rs.length cap ∧ rs.length ≤ cap ∧ cap ≤ maxLen ∧
    ∀ i, i < rs.length → ∃ b off, a = some ⟨b, off, none⟩ ∧ ∀ j, j < m → w.cell? ⟨b, off + i * m + j, none⟩ = some (.int .i64 ((rs.getD i []).getD j 0))

theorem Recs.keeps {m : Nat} {w w' : World} {v : Value} {rs : List (List Int)} (h : Recs m w v rs) (f : Keeps w w') : Recs m w' v rs := by
  obtain ⟨h1, a, cap, h2, h3, h4, h5⟩ := h
  refine ⟨h1, a, cap, h2, h3, h4, fun i hi => ?_⟩
  obtain ⟨b, off, e, hc⟩ := h5 i hi
  exact ⟨b, off, e, fun j hj => f.cell (fun h => h) (hc j hj)⟩

theorem Recs.wf {m : Nat} {w : World} {v : Value} {rs : List (List Int)} (h : Recs m w v rs) {i j : Nat} (hi : i < rs.length) (hj : j < m) :
    -9223372036854775808 ≤ (rs.getD i []).getD j 0 ∧ (rs.getD i []).getD j 0 ≤ 9223372036854775807 := by
  have hm : rs.getD i [] ∈ rs := by rw [List.getD_eq_getElem?_getD, List.getElem?_eq_getElem hi]; exact List.getElem_mem _
  obtain ⟨hl, hw⟩ := h.1 _ hm
  have key : ∀ r : List Int, r.length = m → r.getD j 0 ∈ r := fun r hr => by
    rw [List.getD_eq_getElem?_getD, List.getElem?_eq_getElem (show j < r.length by omega)]
    exact List.getElem_mem _
  exact wf_int (hw _ (key _ hl))

theorem trod_cells {H : Type} {enc : TypeId × Value → H} {P : Program} {w : World} {base : Nat} {spare : Nat → Bool} {held : Bool} {e : TypeId} {m n : Nat} {fs : Array Field} {cs : List Value} {x : DataW H × List MemPlace}
    (he : P.underlying e = some (.struct fs)) (ce : P.cellsOf e = m) (hfs : fs.size = m) (hf : ∀ (j : Nat) (f : Field), fs[j]? = some f → f.offset = j ∧ P.cellsOf f.type = 1 ∧ P.underlying f.type = some (.int .i64))
    (h : DataW.trod enc P w base spare held n e cs = some x) :
    ∃ r : List Int, r.length = m ∧ cs = r.map (Value.int .i64) ∧ ∀ z ∈ r, (Lit.int .i64 z).wf = true := by
  obtain ⟨xs, k, _, _, hcl, hxl, hx⟩ := DataW.trod_struct he h
  rw [ce] at hcl
  have each : ∀ j, j < m → ∃ z : Int, cs[j]? = some (.int .i64 z) ∧ (Lit.int .i64 z).wf = true := by
    intro j hj
    obtain ⟨ho, hc, hu⟩ := hf j (fs[j]'(by omega)) (Array.getElem?_eq_getElem (by omega))
    have h1 := hx j (fs[j]'(by omega)) (Array.getElem?_eq_getElem (by omega))
    rw [ho, hc, List.getElem?_eq_getElem (show j < xs.length by omega)] at h1
    obtain ⟨z, hz, _, hw⟩ := DataW.trod_int hu h1
    refine ⟨z, ?_, hw⟩
    have h2 : ((cs.drop j).take 1)[0]? = some (.int .i64 z) := by rw [hz]; rfl
    simpa [List.getElem?_take, List.getElem?_drop] using h2
  obtain ⟨q, hq⟩ := Deep.choose_lt each
  refine ⟨(List.range m).map q, by simp, ?_, ?_⟩
  · apply List.ext_getElem?
    intro j
    by_cases hj : j < m
    · rw [(hq j hj).1]; simp [hj]
    · rw [List.getElem?_eq_none (by omega), List.getElem?_eq_none (by simp; omega)]
  · intro z hz
    obtain ⟨j, hj, rfl⟩ := List.mem_map.1 hz
    exact (hq j (List.mem_range.1 hj)).2

theorem recs_of_trod {H : Type} {enc : TypeId × Value → H} {P : Program} {w : World} {base : Nat} {spare : Nat → Bool} {held : Bool} {t e : TypeId} {m fuel : Nat} {fs : Array Field} {v : Value} {x : DataW H × List MemPlace} (hm : 0 < m)
    (ht : P.underlying t = some (.slice e)) (he : P.underlying e = some (.struct fs)) (ce : P.cellsOf e = m) (hfs : fs.size = m) (hf : ∀ (j : Nat) (f : Field), fs[j]? = some f → f.offset = j ∧ P.cellsOf f.type = 1 ∧ P.underlying f.type = some (.int .i64))
    (h : DataW.trod enc P w base spare held fuel t [v] = some x) :
    ∃ rs, Recs m w v rs ∧ ((rs = [] ∧ x.1 = .nil) ∨ ∃ xs ys : List (DataW H), x.1 = .slice xs ys ∧ rs.length = xs.length) := by
  rcases Deep.open_slice ht h with ⟨h0, h1⟩ | ⟨a, len, cap, k, n, D, Pl, h0, hb, hl, hc, hk, hx, hcell⟩
  · cases h0
    exact ⟨[], ⟨by simp, none, 0, rfl, by simp, by unfold maxLen; omega, fun i hi => by simp at hi⟩, .inl ⟨rfl, by rw [h1]⟩⟩
  · cases h0
    have hlk : len ≤ k := by rw [hk]; split <;> omega
    have hs0 : 0 < len → a.spot = none := by
      intro h0
      obtain ⟨cs, h1, h2⟩ := hcell 0 (by omega)
      rw [ce] at h1
      obtain ⟨_, hcl, hcc⟩ := World.cells?_some h1
      obtain ⟨r, hr, rfl, hw⟩ := trod_cells he ce hfs hf h2
      have h3 := hcc 0 hm
      rw [Nat.zero_mul, add_zero, add_zero] at h3
      have hz : (List.map (Value.int .i64) r)[0]? = some (.int .i64 (r[0]'(by omega))) := by simp [List.getElem?_eq_getElem (show 0 < r.length by omega)]
      rw [hz] at h3
      unfold World.cell? at h3
      split at h3 <;> simp at h3
      exact h3.1
    have each : ∀ i, i < len → ∃ r : List Int, r.length = m ∧ (∀ z ∈ r, (Lit.int .i64 z).wf = true) ∧ ∃ b off, a = ⟨b, off, none⟩ ∧ ∀ j, j < m → w.cell? ⟨b, off + i * m + j, none⟩ = some (.int .i64 (r.getD j 0)) := by
      intro i hi
      obtain ⟨cs, h1, h2⟩ := hcell i (by omega)
      rw [ce] at h1
      obtain ⟨_, hcl, hcc⟩ := World.cells?_some h1
      obtain ⟨r, hr, rfl, hw⟩ := trod_cells he ce hfs hf h2
      refine ⟨r, hr, hw, ?_⟩
      obtain ⟨b, off, spot⟩ := a
      have hs : spot = none := hs0 (by omega)
      subst hs
      refine ⟨b, off, rfl, fun j hj => ?_⟩
      have h3 := hcc j hj
      rw [Deep.add_add, show (⟨b, off, none⟩ : Addr).add (i * m + j) = ⟨b, off + i * m + j, none⟩ from by unfold Addr.add; split <;> simp_all [Nat.add_assoc]] at h3
      rw [h3]
      simp [List.getD_eq_getElem?_getD, List.getElem?_eq_getElem (show j < r.length by omega)]
    obtain ⟨q, hq⟩ := Deep.choose_lt each
    refine ⟨(List.range len).map q, ⟨?_, some a, cap, by simp, by simpa using hl, hc, ?_⟩, .inr ⟨_, _, by rw [hx], by simp⟩⟩
    · intro r hr
      obtain ⟨i, hi, rfl⟩ := List.mem_map.1 hr
      have := hq i (List.mem_range.1 hi)
      exact ⟨this.1, this.2.1⟩
    · intro i hi
      have hi' : i < len := by simpa using hi
      obtain ⟨_, _, b, off, e1, hcc⟩ := hq i hi'
      refine ⟨b, off, by rw [e1], fun j hj => ?_⟩
      rw [hcc j hj]
      simp [List.getD_eq_getElem?_getD, hi']
end Go.Proofs.Ytkckabfbngkkpaa
