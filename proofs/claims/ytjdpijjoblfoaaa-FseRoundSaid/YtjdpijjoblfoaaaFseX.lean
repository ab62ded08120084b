/- The table of a share: the numbers of the places. -/
import Derived.Test.YtjdpijjoblfoaaaFseP
import Derived.Lib.BitFns
namespace Go.Proofs.Ytjdpijjoblfoaaa

theorem fill_vals (S : Nat) (s : Int) {P : List Int} {q : Nat} {V : Int → Prop} (h : ∀ z ∈ P, V z) (hs : V s) : ∀ n, ∀ z ∈ (fillS S s (P, q) n).1, V z
  | 0 => h
  | n + 1 => fun z hz => by
    simp only [fillS] at hz
    rcases List.mem_or_eq_of_mem_set hz with h1 | rfl
    · exact fill_vals S s h hs n z h1
    · exact hs
theorem spreadB_vals (S : Nat) (share : List Int) : ∀ k, ∀ z ∈ (spreadB S share k).1, z = -1 ∨ ∃ j : Nat, j < k ∧ z = (j : Int)
  | 0 => fun z hz => .inl (List.eq_of_mem_replicate hz)
  | k + 1 => by
    simp only [spreadB]
    rw [show spreadB S share k = ((spreadB S share k).1, (spreadB S share k).2) from rfl]
    refine fill_vals S k (V := fun z => z = -1 ∨ ∃ j : Nat, j < k + 1 ∧ z = (j : Int)) (fun z hz => ?_) (.inr ⟨k, by omega, rfl⟩) _
    rcases spreadB_vals S share k z hz with h | ⟨j, h1, h2⟩
    · exact .inl h
    · exact .inr ⟨j, by omega, h2⟩
theorem sym_range {zs : List Int} {log : Int} (hm : ShMay zs log) {p : Nat} (hp : p < 2 ^ log.toNat) : ∃ j : Nat, j < zs.length ∧ (symP (2 ^ log.toNat) zs).getD p 0 = (j : Int) := by
  obtain ⟨h1, h2, h3⟩ := symP_law hm
  have hs := share_size hm
  have hmem := getD_mem (zs := symP (2 ^ log.toNat) zs) (k := p) (by omega)
  rw [h3] at hmem
  rw [h3] at h1
  rcases spreadB_vals _ _ _ _ hmem with h | ⟨j, hj, e⟩
  · have g := cntL_pos (l := (spreadB (2 ^ log.toNat) zs zs.length).1) (i := p) (by omega) h
    obtain ⟨_, _, g3⟩ := spreadB_law (size_log ⟨hm.1, hm.2.1⟩) hm.2.2.2.2.2.1 (by omega) zs.length (Nat.le_refl _)
    have hz : sumN zs zs.length = 2 ^ log.toNat := by unfold sumN; rw [List.take_length]; exact hs
    omega
  · rw [h3]; exact ⟨j, hj, e⟩
theorem posP_mono (P : List Int) (s : Int) : ∀ {a b : Nat}, a ≤ b → (posP P s a).length ≤ (posP P s b).length
  | a, 0, h => by obtain rfl : a = 0 := by omega
                  exact Nat.le_refl _
  | a, b + 1, h => by
    by_cases e : a = b + 1
    · subst e; exact Nat.le_refl _
    · have := posP_mono P s (a := a) (b := b) (by omega)
      simp only [posP]
      split
      · rw [List.length_append]; omega
      · exact this
theorem posP_at {P : List Int} {s : Int} {p : Nat} (h : P.getD p 0 = s) : (posP P s (p + 1)).length = (posP P s p).length + 1 := by
  simp only [posP]
  rw [if_pos h, List.length_append]
  rfl
theorem xP_bound {zs : List Int} {log : Int} (hm : ShMay zs log) {p : Nat} (hp : p < 2 ^ log.toNat) : ∃ j : Nat, j < zs.length ∧ (symP (2 ^ log.toNat) zs).getD p 0 = (j : Int) ∧ zs.getD j 0 ≤ xP zs (symP (2 ^ log.toNat) zs) p ∧ xP zs (symP (2 ^ log.toNat) zs) p < 2 * zs.getD j 0 ∧ xP zs (symP (2 ^ log.toNat) zs) p = zs.getD j 0 + ((posP (symP (2 ^ log.toNat) zs) j p).length : Int) := by
  obtain ⟨j, hj, e⟩ := sym_range hm hp
  have h1 := posP_share hm hj
  have h2 := posP_mono (symP (2 ^ log.toNat) zs) (j : Int) (a := p + 1) (b := 2 ^ log.toNat) (by omega)
  rw [posP_at e, h1] at h2
  have h3 := hm.2.2.2.2.2.1 _ (getD_mem (k := j) hj)
  have ex : xP zs (symP (2 ^ log.toNat) zs) p = zs.getD j 0 + ((posP (symP (2 ^ log.toNat) zs) j p).length : Int) := by
    unfold xP
    rw [e, Int.toNat_natCast]
  exact ⟨j, hj, e, by omega, by omega, ex⟩
/-- a symbol's place number i stands at that number -/
theorem posP_place (P : List Int) (s : Int) : ∀ (k i : Nat), i < (posP P s k).length → ∃ p : Nat, (posP P s k).getD i 0 = (p : Int) ∧ p < k ∧ P.getD p 0 = s ∧ (posP P s p).length = i
  | 0, i, h => by simp [posP] at h
  | k + 1, i, h => by
    simp only [posP] at h ⊢
    split at h
    case isTrue hs =>
      rw [if_pos hs]
      rw [List.length_append, List.length_singleton] at h
      by_cases hi : i < (posP P s k).length
      · obtain ⟨p, h1, h2, h3, h4⟩ := posP_place P s k i hi
        refine ⟨p, ?_, by omega, h3, h4⟩
        rw [List.getD_eq_getElem?_getD, List.getElem?_append_left hi, ← List.getD_eq_getElem?_getD]
        exact h1
      · have e : i = (posP P s k).length := by omega
        subst e
        exact ⟨k, by simp [List.getD_eq_getElem?_getD], by omega, hs, rfl⟩
    case isFalse hs =>
      rw [if_neg hs]
      obtain ⟨p, h1, h2, h3, h4⟩ := posP_place P s k i h
      exact ⟨p, h1, by omega, h3, h4⟩

theorem shl_all : ∀ L : Fin 5, ∀ x : Fin 1024, 1 ≤ x.val → x.val < 2 * 2 ^ (L.val + 5) →
    (2 : Int) ^ (L.val + 5) ≤ (x.val : Int) * 2 ^ shlN 10 (x.val : Int) (2 ^ (L.val + 5)) ∧ (x.val : Int) * 2 ^ shlN 10 (x.val : Int) (2 ^ (L.val + 5)) + 2 ^ shlN 10 (x.val : Int) (2 ^ (L.val + 5)) ≤ 2 * 2 ^ (L.val + 5) ∧
      shlN 10 (x.val : Int) (2 ^ (L.val + 5)) ≤ L.val + 5 ∧ ((L.val + 5 : Nat) : Int) - (Lib.bitLen x.val : Int) + 1 = (shlN 10 (x.val : Int) (2 ^ (L.val + 5)) : Int) := by decide +kernel
theorem shlN_spec {log : Int} (h : 5 ≤ log ∧ log ≤ 9) {x : Int} (h0 : 1 ≤ x) (h1 : x < 2 * ((2 ^ log.toNat : Nat) : Int)) :
    ((2 ^ log.toNat : Nat) : Int) ≤ x * 2 ^ shlN 10 x ((2 ^ log.toNat : Nat) : Int) ∧ x * 2 ^ shlN 10 x ((2 ^ log.toNat : Nat) : Int) + 2 ^ shlN 10 x ((2 ^ log.toNat : Nat) : Int) ≤ 2 * ((2 ^ log.toNat : Nat) : Int) ∧
      shlN 10 x ((2 ^ log.toNat : Nat) : Int) ≤ log.toNat ∧ log - (Lib.bitLen x.toNat : Int) + 1 = (shlN 10 x ((2 ^ log.toNat : Nat) : Int) : Int) := by
  obtain ⟨y, rfl⟩ : ∃ y : Nat, x = (y : Int) := ⟨x.toNat, by omega⟩
  obtain ⟨l, rfl⟩ : ∃ l : Nat, log = ((l + 5 : Nat) : Int) := ⟨log.toNat - 5, by omega⟩
  rw [Int.toNat_natCast] at *
  have hl : l < 5 := by omega
  have hp : 2 ^ (l + 5) ≤ 512 := Nat.pow_le_pow_right (by decide) (show l + 5 ≤ 9 by omega)
  have hc : ((2 ^ (l + 5) : Nat) : Int) = (2 : Int) ^ (l + 5) := by simp
  have hg := shl_all ⟨l, hl⟩ ⟨y, by omega⟩ (by show 1 ≤ y; omega) (by show y < 2 * 2 ^ (l + 5); omega)
  rw [hc, Int.toNat_natCast]
  exact hg
theorem shl_unique {S x : Int} {a b : Nat} (_hS : 0 < S) (ha1 : S ≤ x * 2 ^ a) (ha2 : x * 2 ^ a < 2 * S) (hb1 : S ≤ x * 2 ^ b) (hb2 : x * 2 ^ b < 2 * S) : a = b := by
  have key : ∀ {a b : Nat}, a < b → S ≤ x * 2 ^ a → x * 2 ^ b < 2 * S → False := fun {a b} hab h1 h2 => by
    obtain ⟨d, rfl⟩ : ∃ d, b = a + 1 + d := ⟨b - a - 1, by omega⟩
    rw [Int.pow_add, Int.pow_succ] at h2
    have hd : (1 : Int) ≤ 2 ^ d := by
      have : (0 : Int) < 2 ^ d := Int.pow_pos (by decide)
      omega
    have e : x * (2 ^ a * 2 * 2 ^ d) = (x * 2 ^ a) * 2 * 2 ^ d := by rw [Int.mul_assoc, Int.mul_assoc, Int.mul_assoc]
    rw [e] at h2
    have h3 : (x * 2 ^ a) * 2 * 1 ≤ (x * 2 ^ a) * 2 * 2 ^ d := Int.mul_le_mul_of_nonneg_left hd (by omega)
    omega
  rcases Nat.lt_trichotomy a b with h | h | h
  · exact (key h ha1 hb2).elim
  · exact h
  · exact (key h hb1 ha2).elim
end Go.Proofs.Ytjdpijjoblfoaaa
