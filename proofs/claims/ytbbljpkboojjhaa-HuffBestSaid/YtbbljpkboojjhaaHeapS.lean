/- A heap of numbers in a list: the plain law. -/
import Derived.Test.YtbbljpkboojjhaaElems
namespace Go.Proofs.Ytbbljpkboojjhaa

def swapL (q : List Int) (i j : Nat) : List Int := (q.set i (q.getD j 0)).set j (q.getD i 0)
theorem swapL_length (q : List Int) (i j : Nat) : (swapL q i j).length = q.length := by simp [swapL]
theorem swapL_get (q : List Int) {i j : Nat} (hi : i < q.length) (hj : j < q.length) (k : Nat) : (swapL q i j).getD k 0 = if k = j then q.getD i 0 else if k = i then q.getD j 0 else q.getD k 0 := by
  simp only [swapL, List.getD_eq_getElem?_getD, List.getElem?_set, List.length_set]
  by_cases h1 : k = j
  · subst h1; simp [hj]
  · by_cases h2 : k = i
    · subst h2
      have : ¬ j = k := fun h => h1 h.symm
      simp [h1, this, hi]
    · have h3 : ¬ j = k := fun h => h1 h.symm
      have h4 : ¬ i = k := fun h => h2 h.symm
      simp [h1, h2, h3, h4]

/-- the first n: each is no less than the one above it -/
def HeapN (q : List Int) (n : Nat) : Prop := ∀ k, 0 < k → k < n → q.getD ((k - 1) / 2) 0 ≤ q.getD k 0
theorem HeapN.root {q : List Int} {n : Nat} (h : HeapN q n) : ∀ k, k < n → q.getD 0 0 ≤ q.getD k 0 := by
  intro k
  induction k using Nat.strongRecOn with
  | _ k ih =>
    intro hk
    rcases Nat.eq_zero_or_pos k with rfl | hp
    · exact Int.le_refl _
    · exact Int.le_trans (ih ((k - 1) / 2) (by omega) (by omega)) (h k hp hk)
/-- among the first n -/
def MemN (q : List Int) (n : Nat) (y : Int) : Prop := ∃ k, k < n ∧ q.getD k 0 = y
theorem memN_swap {q : List Int} {n i j : Nat} (hn : n ≤ q.length) (hi : i < n) (hj : j < n) (y : Int) : MemN (swapL q i j) n y ↔ MemN q n y := by
  constructor
  · rintro ⟨k, hk, rfl⟩
    rw [swapL_get q (by omega) (by omega)]
    split
    · exact ⟨i, hi, rfl⟩
    · split
      · exact ⟨j, hj, rfl⟩
      · exact ⟨k, hk, rfl⟩
  · rintro ⟨k, hk, rfl⟩
    by_cases h1 : k = i
    · exact ⟨j, hj, by rw [swapL_get q (by omega) (by omega), if_pos rfl, h1]⟩
    · by_cases h2 : k = j
      · by_cases h3 : i = j
        · omega
        · exact ⟨i, hi, by rw [swapL_get q (by omega) (by omega), if_neg h3, if_pos rfl, h2]⟩
      · exact ⟨k, hk, by rw [swapL_get q (by omega) (by omega), if_neg h2, if_neg h1]⟩

/-- a heap but for place i, that may be too great -/
def DownInv (q : List Int) (n i : Nat) : Prop :=
  (∀ k, 0 < k → k < n → (k - 1) / 2 ≠ i → q.getD ((k - 1) / 2) 0 ≤ q.getD k 0) ∧ (∀ k, 0 < k → k < n → (k - 1) / 2 = i → 0 < i → q.getD ((i - 1) / 2) 0 ≤ q.getD k 0)
theorem DownInv.done {q : List Int} {n i : Nat} (h : DownInv q n i) (h2 : ∀ k, 0 < k → k < n → (k - 1) / 2 = i → q.getD i 0 ≤ q.getD k 0) : HeapN q n := by
  intro k h0 hk
  by_cases he : (k - 1) / 2 = i
  · rw [he]; exact h2 k h0 hk he
  · exact h.1 k h0 hk he
theorem DownInv.step {q : List Int} {n i j : Nat} (h : DownInv q n i) (hn : n ≤ q.length) (hi : i < n) (hj : j < n) (h0 : 0 < j) (hp : (j - 1) / 2 = i) (hlt : q.getD j 0 ≤ q.getD i 0)
    (hmin : ∀ k, 0 < k → k < n → (k - 1) / 2 = i → q.getD j 0 ≤ q.getD k 0) : DownInv (swapL q i j) n j := by
  have hij : i ≠ j := by omega
  have g := fun k => swapL_get q (i := i) (j := j) (by omega) (by omega) k
  constructor
  · intro k h1 h2 h3
    rw [g, g]
    by_cases ha : k = j
    · rw [if_pos ha, ha, hp, if_neg hij, if_pos rfl]
      exact hlt
    · rw [if_neg ha, if_neg h3]
      by_cases hb : (k - 1) / 2 = i
      · rw [if_pos hb, if_neg (by omega)]
        exact hmin k h1 h2 hb
      · rw [if_neg hb]
        by_cases hc : k = i
        · rw [if_pos hc, hc]
          exact h.2 j h0 hj hp (by omega)
        · rw [if_neg hc]
          exact h.1 k h1 h2 hb
  · intro k h1 h2 h3 _
    rw [g, g, hp, if_neg hij, if_pos rfl, if_neg (by omega), if_neg (by omega)]
    rw [← h3]
    exact h.1 k h1 h2 (by omega)

/-- a heap but for place j, that may be too small -/
def UpInv (q : List Int) (n j : Nat) : Prop :=
  (∀ k, 0 < k → k < n → k ≠ j → q.getD ((k - 1) / 2) 0 ≤ q.getD k 0) ∧ (∀ k, 0 < k → k < n → (k - 1) / 2 = j → 0 < j → q.getD ((j - 1) / 2) 0 ≤ q.getD k 0)
theorem UpInv.done {q : List Int} {n j : Nat} (h : UpInv q n j) (h2 : 0 < j → q.getD ((j - 1) / 2) 0 ≤ q.getD j 0) : HeapN q n := by
  intro k h0 hk
  by_cases he : k = j
  · rw [he] at h0 ⊢; exact h2 h0
  · exact h.1 k h0 hk he
theorem UpInv.step {q : List Int} {n i j : Nat} (h : UpInv q n j) (hn : n ≤ q.length) (hj : j < n) (h0 : 0 < j) (hp : (j - 1) / 2 = i) (hlt : q.getD j 0 ≤ q.getD i 0) : UpInv (swapL q i j) n i := by
  have hij : i ≠ j := by omega
  have g := fun k => swapL_get q (i := i) (j := j) (by omega) (by omega) k
  constructor
  · intro k h1 h2 h3
    rw [g, g]
    by_cases ha : k = j
    · rw [if_pos ha, ha, hp, if_neg hij, if_pos rfl]
      exact hlt
    · rw [if_neg ha, if_neg h3]
      by_cases hb : (k - 1) / 2 = j
      · rw [if_pos hb]
        have := h.2 k h1 h2 hb h0
        rw [hp] at this
        exact this
      · rw [if_neg hb]
        by_cases hc : (k - 1) / 2 = i
        · rw [if_pos hc]
          have := h.1 k h1 h2 ha
          rw [hc] at this
          exact Int.le_trans hlt this
        · rw [if_neg hc]
          exact h.1 k h1 h2 ha
  · intro k h1 h2 h3 h4
    have hpi := h.1 i h4 (by omega) hij
    rw [g, g, if_neg (by omega), if_neg (by omega)]
    by_cases ha : k = j
    · rw [if_pos ha]; exact hpi
    · rw [if_neg ha, if_neg (by omega)]
      have := h.1 k h1 h2 ha
      rw [h3] at this
      exact Int.le_trans hpi this
end Go.Proofs.Ytbbljpkboojjhaa
