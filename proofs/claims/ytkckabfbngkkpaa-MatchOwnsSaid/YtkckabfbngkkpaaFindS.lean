/- The steps that are found: the plain law. -/
import Derived.Test.YtkckabfbngkkpaaRunS
namespace Go.Proofs.Ytkckabfbngkkpaa

/-- the bytes at two places are the same -/
def Mt (zs : List Int) (a b : Nat) : Prop := b < zs.length ∧ zs.getD a 0 = zs.getD b 0
instance (zs : List Int) (a b : Nat) : Decidable (Mt zs a b) := by unfold Mt; infer_instance
def lcpF (zs : List Int) : Nat → Nat → Nat → Nat
  | 0, _, _ => 0
  | f + 1, a, b => if Mt zs a b then lcpF zs f (a + 1) (b + 1) + 1 else 0
/-- so many bytes are the same from two places on, at most 259 -/
def lcp (zs : List Int) (a b : Nat) : Nat := lcpF zs 259 a b

theorem lcpF_le (zs : List Int) : ∀ f a b, lcpF zs f a b ≤ f
  | 0, _, _ => by simp [lcpF]
  | f + 1, a, b => by
    have := lcpF_le zs f (a + 1) (b + 1)
    simp only [lcpF]
    split <;> omega
theorem lcpF_mt (zs : List Int) : ∀ f a b m, m < lcpF zs f a b → Mt zs (a + m) (b + m)
  | 0, _, _, m, h => by simp [lcpF] at h
  | f + 1, a, b, m, h => by
    simp only [lcpF] at h
    split at h
    case isTrue hm =>
      cases m with
      | zero => exact hm
      | succ m =>
        have := lcpF_mt zs f (a + 1) (b + 1) m (by omega)
        rw [show a + (m + 1) = a + 1 + m from by omega, show b + (m + 1) = b + 1 + m from by omega]
        exact this
    case isFalse => omega
theorem lcpF_stop (zs : List Int) : ∀ f a b, lcpF zs f a b < f → ¬ Mt zs (a + lcpF zs f a b) (b + lcpF zs f a b)
  | 0, _, _, h => by simp [lcpF] at h
  | f + 1, a, b, h => by
    simp only [lcpF] at h ⊢
    split at h
    case isTrue hm =>
      have := lcpF_stop zs f (a + 1) (b + 1) (by omega)
      rw [if_pos hm, show a + (lcpF zs f (a + 1) (b + 1) + 1) = a + 1 + lcpF zs f (a + 1) (b + 1) from by omega, show b + (lcpF zs f (a + 1) (b + 1) + 1) = b + 1 + lcpF zs f (a + 1) (b + 1) from by omega]
      exact this
    case isFalse hm => rw [if_neg hm]; simpa using hm
theorem lcp_le (zs : List Int) (a b : Nat) : lcp zs a b ≤ 259 := lcpF_le zs 259 a b
theorem lcp_next {zs : List Int} {a b n : Nat} (h : n < lcp zs a b) : n < 259 ∧ b + n < zs.length ∧ zs.getD (a + n) 0 = zs.getD (b + n) 0 := by
  have h1 := lcp_le zs a b
  have h2 := lcpF_mt zs 259 a b n h
  exact ⟨by omega, h2.1, h2.2⟩
theorem lcp_end {zs : List Int} {a b n : Nat} (h : n = lcp zs a b) : n = 259 ∨ (n < 259 ∧ zs.length ≤ b + n) ∨ (n < 259 ∧ b + n < zs.length ∧ zs.getD (a + n) 0 ≠ zs.getD (b + n) 0) := by
  have h1 := lcp_le zs a b
  by_cases h2 : n = 259
  · exact .inl h2
  · have h3 := lcpF_stop zs 259 a b (by unfold lcp at h h1; omega)
    rw [← show n = lcpF zs 259 a b from h] at h3
    by_cases h4 : b + n < zs.length
    · exact .inr (.inr ⟨by omega, h4, fun e => h3 ⟨h4, e⟩⟩)
    · exact .inr (.inl ⟨by omega, by omega⟩)
theorem lcp_len (zs : List Int) (a b : Nat) : lcp zs a b ≤ zs.length - b := by
  rcases Nat.eq_zero_or_pos (lcp zs a b) with h | h
  · omega
  · have := (lcp_next (zs := zs) (a := a) (b := b) (n := lcp zs a b - 1) (by omega)).2.1
    omega

/-- the best of the distances 1 to j at place i: how many bytes, and the distance -/
def bestD (zs : List Int) (i : Nat) : Nat → Nat × Nat
  | 0 => (0, 0)
  | d + 1 => if 4 ≤ lcp zs (i - (d + 1)) i ∧ (bestD zs i d).1 < lcp zs (i - (d + 1)) i then (lcp zs (i - (d + 1)) i, d + 1) else bestD zs i d
def best (zs : List Int) (win i : Nat) : Nat × Nat := bestD zs i (min win i)

theorem bestD_le (zs : List Int) (i : Nat) : ∀ j, (bestD zs i j).1 ≤ 259
  | 0 => by simp [bestD]
  | j + 1 => by
    have := bestD_le zs i j
    have := lcp_le zs (i - (j + 1)) i
    simp only [bestD]
    split <;> simp <;> omega
theorem bestD_snd (zs : List Int) (i : Nat) : ∀ j, (bestD zs i j).2 ≤ j
  | 0 => by simp [bestD]
  | j + 1 => by
    have := bestD_snd zs i j
    simp only [bestD]
    split <;> simp <;> omega
theorem bestD_is (zs : List Int) (i : Nat) : ∀ j, bestD zs i j = (0, 0) ∨ (4 ≤ (bestD zs i j).1 ∧ 1 ≤ (bestD zs i j).2 ∧ lcp zs (i - (bestD zs i j).2) i = (bestD zs i j).1)
  | 0 => by simp [bestD]
  | j + 1 => by
    have := bestD_is zs i j
    simp only [bestD]
    split
    case isTrue h => right; exact ⟨h.1, by simp, rfl⟩
    case isFalse => exact this
theorem bestD_skip (zs : List Int) (i j : Nat) : ∀ k, (∀ d, j < d → d ≤ j + k → lcp zs (i - d) i < 4) → bestD zs i (j + k) = bestD zs i j
  | 0, _ => rfl
  | k + 1, h => by
    have h1 := bestD_skip zs i j k fun d h1 h2 => h d h1 (by omega)
    have h2 := h (j + k + 1) (by omega) (by omega)
    rw [← Nat.add_assoc, bestD, if_neg (by omega), h1]
theorem bestD_full (zs : List Int) (i j : Nat) (h : (bestD zs i j).1 = 259) : ∀ k, bestD zs i (j + k) = bestD zs i j
  | 0 => rfl
  | k + 1 => by
    have h1 := bestD_full zs i j h k
    have h2 := lcp_le zs (i - (j + k + 1)) i
    rw [← Nat.add_assoc, bestD, if_neg (by rw [h1]; omega), h1]
theorem bestD_short (zs : List Int) {i : Nat} (h : zs.length < i + 4) : ∀ j, bestD zs i j = (0, 0)
  | 0 => rfl
  | j + 1 => by
    have h1 := lcp_len zs (i - (j + 1)) i
    rw [bestD, if_neg (by omega), bestD_short zs h j]

theorem best_le (zs : List Int) (win i : Nat) : (best zs win i).1 ≤ 259 := bestD_le zs i _
theorem best_len (zs : List Int) (win i : Nat) : (best zs win i).1 ≤ zs.length - i := by
  unfold best
  rcases bestD_is zs i (min win i) with h | ⟨_, _, h⟩
  · rw [h]; simp
  · rw [← h]; exact lcp_len _ _ _
theorem best_snd (zs : List Int) (win i : Nat) : (best zs win i).2 ≤ win ∧ (best zs win i).2 ≤ i := by
  have := bestD_snd zs i (min win i)
  unfold best
  omega
theorem best_is (zs : List Int) (win i : Nat) : best zs win i = (0, 0) ∨ (4 ≤ (best zs win i).1 ∧ 1 ≤ (best zs win i).2 ∧ lcp zs (i - (best zs win i).2) i = (best zs win i).1) := bestD_is zs i _
theorem best_short (zs : List Int) (win : Nat) {i : Nat} (h : zs.length < i + 4) : best zs win i = (0, 0) := bestD_short zs h _

/-- a literal stands at i -/
def IsLit (zs : List Int) (win i : Nat) : Prop := (best zs win i).1 = 0 ∨ (best zs win i).1 < (best zs win (i + 1)).1
instance (zs : List Int) (win i : Nat) : Decidable (IsLit zs win i) := by unfold IsLit; infer_instance
/-- the steps from place i on, behind so many literals -/
def findS (zs : List Int) (win i lits : Nat) : List (List Int) :=
  if h : i < zs.length then
    if h2 : IsLit zs win i then findS zs win (i + 1) (lits + 1)
    else [(lits : Int), ((best zs win i).1 : Int), ((best zs win i).2 : Int)] :: findS zs win (i + (best zs win i).1) 0
  else []
  termination_by zs.length - i
  decreasing_by
    · omega
    · have h3 : (best zs win i).1 ≠ 0 := fun e => h2 (.inl e)
      omega
theorem findS_end {zs : List Int} {win i lits : Nat} (h : zs.length ≤ i) : findS zs win i lits = [] := by rw [findS, dif_neg (by omega)]
theorem findS_lit {zs : List Int} {win i lits : Nat} (h : i < zs.length) (h2 : IsLit zs win i) : findS zs win i lits = findS zs win (i + 1) (lits + 1) := by rw [findS, dif_pos h, dif_pos h2]
theorem findS_step {zs : List Int} {win i lits : Nat} (h : i < zs.length) (h2 : ¬ IsLit zs win i) :
    findS zs win i lits = [(lits : Int), ((best zs win i).1 : Int), ((best zs win i).2 : Int)] :: findS zs win (i + (best zs win i).1) 0 := by rw [findS, dif_pos h, dif_neg h2]
theorem not_lit {zs : List Int} {win i : Nat} (h : ¬ IsLit zs win i) : 4 ≤ (best zs win i).1 ∧ 1 ≤ (best zs win i).2 ∧ lcp zs (i - (best zs win i).2) i = (best zs win i).1 ∧ (best zs win (i + 1)).1 ≤ (best zs win i).1 := by
  have h1 : (best zs win i).1 ≠ 0 := fun e => h (.inl e)
  have h2 : ¬ (best zs win i).1 < (best zs win (i + 1)).1 := fun e => h (.inr e)
  rcases best_is zs win i with h3 | ⟨h3, h4, h5⟩
  · rw [h3] at h1; simp at h1
  · exact ⟨h3, h4, h5, by omega⟩

/-- the literals that stand as they are, and the steps done -/
theorem copyS_is (zs : List Int) {i d : Nat} (hd : 1 ≤ d) (hi : d ≤ i) : ∀ n, n ≤ lcp zs (i - d) i → copyS (zs.take i) d n = zs.take (i + n)
  | 0, _ => rfl
  | n + 1, h => by
    have h1 := copyS_is zs hd hi n (by omega)
    obtain ⟨_, h2, h3⟩ := lcp_next (zs := zs) (a := i - d) (b := i) (n := n) (by omega)
    simp only [copyS, h1]
    have hl : (zs.take (i + n)).length = i + n := by rw [List.length_take]; omega
    rw [hl, ← Nat.add_assoc, List.take_add_one, List.getElem?_eq_getElem h2]
    congr 1
    rw [List.getD_eq_getElem?_getD, List.getElem?_take, if_pos (by omega), ← List.getD_eq_getElem?_getD, show i + n - d = i - d + n from by omega, h3, List.getD_eq_getElem?_getD, List.getElem?_eq_getElem h2]
    rfl

theorem round_law (zs : List Int) (win : Nat) : ∀ m i fr, m = zs.length - i → fr ≤ i → i ≤ zs.length →
    ∃ x : List Int, (∀ out, litS (findS zs win i (i - fr)) (zs.drop fr) out = (out ++ x, 0)) ∧ x.length + fr ≤ zs.length ∧ (∀ z ∈ x, z ∈ zs) ∧
      (∀ most : Int, (zs.length : Int) ≤ most → runS most (findS zs win i (i - fr)) x (zs.take fr) = (zs, 0)) ∧
      (∀ most : Int, (zs.length : Int) = most + 1 → runS most (findS zs win i (i - fr)) x (zs.take fr) = ([], 11)) := by
  intro m
  induction m using Nat.strongRecOn with
  | _ m ih =>
    intro i fr hm hf hi
    have hlt : (zs.take fr).length = fr := by rw [List.length_take]; omega
    have hld : (zs.drop fr).length = zs.length - fr := List.length_drop
    by_cases he : i < zs.length
    case neg =>
      rw [findS_end (by omega)]
      refine ⟨zs.drop fr, fun out => rfl, by omega, fun z hz => List.mem_of_mem_drop hz, fun most h => ?_, fun most h => ?_⟩
      · rw [runS, if_neg (by rw [hlt, hld]; omega), List.take_append_drop]
      · rw [runS, if_pos (by rw [hlt, hld]; omega)]
    case pos =>
      by_cases hl : IsLit zs win i
      · obtain ⟨x, h1, h2, h3, h4⟩ := ih (zs.length - (i + 1)) (by omega) (i + 1) fr rfl (by omega) (by omega)
        rw [findS_lit he hl, show i - fr + 1 = i + 1 - fr from by omega]
        exact ⟨x, h1, h2, h3, h4⟩
      · obtain ⟨g1, g2, g3, g4⟩ := not_lit hl
        have g5 := best_len zs win i
        have g6 := best_snd zs win i
        obtain ⟨n, hn⟩ : ∃ n, n = (best zs win i).1 := ⟨_, rfl⟩
        obtain ⟨d, hd⟩ : ∃ d, d = (best zs win i).2 := ⟨_, rfl⟩
        rw [findS_step he hl]
        rw [← hn] at g1 g3 g4 g5 ⊢
        rw [← hd] at g2 g3 g6 ⊢
        obtain ⟨x, h1, h2, h3, h4, h5⟩ := ih (zs.length - (i + n)) (by omega) (i + n) (i + n) rfl (by omega) (by omega)
        rw [show i + n - (i + n) = 0 from by omega] at h1 h4 h5
        have hlx : ((zs.drop fr).take (i - fr)).length = i - fr := by rw [List.length_take]; omega
        have hta : zs.take fr ++ (zs.drop fr).take (i - fr) = zs.take i := by
          rw [← List.take_add, show fr + (i - fr) = i from by omega]
        have hcp := copyS_is zs g2 g6.2 n (by rw [g3]; omega)
        have ex : (((i - fr : Nat) : Int) + (n : Int)).toNat = i - fr + n := by omega
        refine ⟨(zs.drop fr).take (i - fr) ++ x, fun out => ?_, by rw [List.length_append]; omega, ?_, fun most h => ?_, fun most h => ?_⟩
        · rw [litS, if_neg (by simp only [LitBad, List.getD_cons_zero, List.getD_cons_succ]; omega)]
          simp only [List.getD_cons_zero, List.getD_cons_succ]
          rw [ex, List.drop_drop, show fr + (i - fr + n) = i + n from by omega, Int.toNat_natCast, h1, List.append_assoc]
        · intro z hz
          rcases List.mem_append.1 hz with hz | hz
          · exact List.mem_of_mem_drop (List.mem_of_mem_take hz)
          · exact h3 z hz
        · rw [runS, if_neg (by simp only [RunData, List.getD_cons_zero, List.getD_cons_succ, List.length_append]; omega), if_neg (by simp only [RunBig, List.getD_cons_zero, List.getD_cons_succ]; omega)]
          simp only [List.getD_cons_zero, List.getD_cons_succ, Int.toNat_natCast]
          rw [List.drop_left' hlx, List.take_left' hlx, hta, hcp, h4 most h]
        · rw [runS, if_neg (by simp only [RunData, List.getD_cons_zero, List.getD_cons_succ, List.length_append]; omega)]
          by_cases hb : most < (i + n : Int)
          · rw [if_pos (by simp only [RunBig, List.getD_cons_zero, List.getD_cons_succ]; omega)]
          · rw [if_neg (by simp only [RunBig, List.getD_cons_zero, List.getD_cons_succ]; omega)]
            simp only [List.getD_cons_zero, List.getD_cons_succ, Int.toNat_natCast]
            rw [List.drop_left' hlx, List.take_left' hlx, hta, hcp, h5 most h]
end Go.Proofs.Ytkckabfbngkkpaa
