/- The lengths: trees of lesser and lesser counts till none is longer than eleven. Plain. -/
import Derived.Test.YtbbljpkboojjhaaHfTools
namespace Go.Proofs.Ytbbljpkboojjhaa

def lastK (cs : List Int) : Nat → Nat
  | 0 => 0
  | k + 1 => if cs.getD k 0 = 0 then lastK cs k else k + 1
def halfC (c : Int) : Int := if 0 < c then c / 2 + 1 else c
def maxS (l : List Int) : Int := l.getD (gre l) 0
def lenS : Nat → List Int → List Int
  | 0, cs => treeS cs
  | f + 1, cs => if maxS (treeS cs) ≤ 11 then treeS cs else lenS f (cs.map halfC)
/-- none of the counts is negative, or too great; and one is no zero -/
def csMay (cs : List Int) : Prop := cs.length ≤ 256 ∧ (∀ i, i < cs.length → 0 ≤ cs.getD i 0 ∧ cs.getD i 0 ≤ 4294967295) ∧ 0 < lastK cs cs.length
instance (cs : List Int) : Decidable (csMay cs) := by unfold csMay; exact inferInstance
def lengthsS (cs : List Int) : List Int := lenS 32 (cs.take (lastK cs cs.length))

theorem lastK_le (cs : List Int) : ∀ k, lastK cs k ≤ k
  | 0 => by simp [lastK]
  | k + 1 => by
    simp only [lastK]
    have := lastK_le cs k
    split <;> omega
theorem lastK_ne (cs : List Int) : ∀ k, 0 < lastK cs k → cs.getD (lastK cs k - 1) 0 ≠ 0
  | 0, h => by simp [lastK] at h
  | k + 1, h => by
    simp only [lastK] at h ⊢
    split
    · rename_i e
      rw [if_pos e] at h
      exact lastK_ne cs k h
    · rename_i e
      exact e
theorem lastK_zero (cs : List Int) : ∀ k i, lastK cs k ≤ i → i < k → cs.getD i 0 = 0
  | 0, _, _, h => by omega
  | k + 1, i, h1, h2 => by
    simp only [lastK] at h1
    split at h1
    · rename_i e
      by_cases e2 : i = k
      · subst e2; exact e
      · exact lastK_zero cs k i h1 (by omega)
    · omega
theorem gre_bound {l : List Int} (h : 0 < l.length) {M : Int} : maxS l ≤ M ↔ ∀ i, i < l.length → l.getD i 0 ≤ M := by
  unfold maxS gre
  refine ⟨fun hm i hi => ?_, fun hm => hm _ (greK_lt l l.length h)⟩
  have := greK_max l l.length i hi
  omega
theorem map_half (cs : List Int) {i : Nat} (h : i < cs.length) : (cs.map halfC).getD i 0 = halfC (cs.getD i 0) := by
  simp [List.getD_eq_getElem?_getD, h]

/-- what is true of the counts while m rounds may be left -/
structure Fit (m : Nat) (cs : List Int) : Prop where
  ok : CsOk cs
  low : ∀ i, i < cs.length → cs.getD i 0 ≤ 1 + 2 ^ m
  last : 0 < cs.length ∧ 0 < cs.getD (cs.length - 1) 0

theorem Fit.half {m : Nat} {cs : List Int} (h : Fit (m + 1) cs) : Fit m (cs.map halfC) := by
  refine ⟨⟨by simpa using h.ok.len, fun i hi => ?_⟩, fun i hi => ?_, ?_⟩
  · rw [List.length_map] at hi
    rw [map_half cs hi]
    have := h.ok.bound i hi
    unfold halfC
    split <;> omega
  · rw [List.length_map] at hi
    rw [map_half cs hi]
    have h1 := h.low i hi
    rw [Int.pow_succ] at h1
    have h2 : (0 : Int) < 2 ^ m := Int.pow_pos (by omega)
    unfold halfC
    split <;> omega
  · have h1 := h.last
    refine ⟨by simpa using h1.1, ?_⟩
    rw [List.length_map, map_half cs (by omega)]
    unfold halfC
    rw [if_pos h1.2]
    omega
theorem Fit.done {cs : List Int} (h : Fit 0 cs) : maxS (treeS cs) ≤ 11 := by
  rw [gre_bound (by rw [treeS_length]; exact h.last.1)]
  intro i hi
  rw [treeS_length] at hi
  exact h.ok.flat (fun j hj => by have := h.low j hj; omega) hi
theorem Fit.start {cs : List Int} (h : csMay cs) : Fit 32 (cs.take (lastK cs cs.length)) := by
  obtain ⟨h1, h2, h3⟩ := h
  have hle := lastK_le cs cs.length
  have hl : (cs.take (lastK cs cs.length)).length = lastK cs cs.length := by rw [List.length_take]; omega
  have hg : ∀ i, i < lastK cs cs.length → (cs.take (lastK cs cs.length)).getD i 0 = cs.getD i 0 := fun i hi => by
    simp [List.getD_eq_getElem?_getD, hi]
  refine ⟨⟨by omega, fun i hi => ?_⟩, fun i hi => ?_, by omega, ?_⟩
  · rw [hl] at hi
    rw [hg i hi]
    have := h2 i (by omega)
    omega
  · rw [hl] at hi
    rw [hg i hi]
    have := h2 i (by omega)
    have : (2 : Int) ^ 32 = 4294967296 := by decide
    omega
  · rw [hl, hg _ (by omega)]
    have := lastK_ne cs cs.length h3
    have := h2 (lastK cs cs.length - 1) (by omega)
    omega
/-- the lengths are a tree's, of counts of which just as many stand -/
theorem Fit.len : ∀ (m : Nat) (cs : List Int), Fit m cs → ∃ ds, CsOk ds ∧ lenS m cs = treeS ds ∧ ds.length = cs.length ∧ (∀ i, i < cs.length → (0 < ds.getD i 0 ↔ 0 < cs.getD i 0)) ∧ maxS (treeS ds) ≤ 11 ∧ (maxS (treeS cs) ≤ 11 → ds = cs)
  | 0, cs, h => ⟨cs, h.ok, rfl, rfl, fun _ _ => Iff.rfl, h.done, fun _ => rfl⟩
  | m + 1, cs, h => by
    simp only [lenS]
    by_cases h1 : maxS (treeS cs) ≤ 11
    · rw [if_pos h1]
      exact ⟨cs, h.ok, rfl, rfl, fun _ _ => Iff.rfl, h1, fun _ => rfl⟩
    · rw [if_neg h1]
      obtain ⟨ds, g1, g2, g3, g4, g5, _⟩ := Fit.len m (cs.map halfC) h.half
      rw [List.length_map] at g3 g4
      refine ⟨ds, g1, g2, g3, fun i hi => ?_, g5, fun h => absurd h h1⟩
      rw [g4 i hi, map_half cs hi]
      unfold halfC
      have := (h.ok.bound i hi).1
      split <;> omega
end Go.Proofs.Ytbbljpkboojjhaa
