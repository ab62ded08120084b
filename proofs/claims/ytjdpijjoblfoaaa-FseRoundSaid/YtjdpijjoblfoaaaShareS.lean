/- Shares of counts: plain definitions. -/
import Derived.Test.YtjdpijjoblfoaaaFseMax
namespace Go.Proofs.Ytjdpijjoblfoaaa

def CtBad (c : Int) : Prop := c < 0 ∨ 4294967295 < c
instance (c : Int) : Decidable (CtBad c) := by unfold CtBad; exact inferInstance
/-- how many stand -/
def posN (l : List Int) : Nat := (l.filter (fun c => decide (0 < c))).length
/-- behind the last one that stands, of the first k -/
def tlen (l : List Int) : Nat → Nat
  | 0 => 0
  | k + 1 => if 0 < l.getD k 0 then k + 1 else tlen l k
def sh0 (S all c : Int) : Int := if 0 < c then max 1 (c * S / all) else 0
def out0 (S all : Int) (l : List Int) (k : Nat) : List Int := (l.take (tlen l k)).map (sh0 S all)
/-- the greatest, by d more -/
def bumpG (d : Int) (l : List Int) : List Int := l.set (gre l) (l.getD (gre l) 0 + d)
def adjN (d : Int) : Nat → List Int → List Int
  | 0, l => l
  | n + 1, l => bumpG d (adjN d n l)
/-- no shares for these -/
def ShNo (l : List Int) (log : Int) : Prop := log < 5 ∨ 9 < log ∨ 64 < l.length ∨ (∃ z ∈ l, CtBad z) ∨ posN l = 0 ∨ 2 ^ log.toNat < 2 * posN l
instance (l : List Int) (log : Int) : Decidable (ShNo l log) := by unfold ShNo; exact inferInstance
def shareO (l : List Int) (S : Nat) : List Int :=
  if (S : Int) < (out0 S l.sum l l.length).sum then adjN (-1) ((out0 S l.sum l l.length).sum - S).toNat (out0 S l.sum l l.length)
  else adjN 1 ((S : Int) - (out0 S l.sum l l.length).sum).toNat (out0 S l.sum l l.length)
def shareS (l : List Int) (log : Int) : List Int × Int := if ShNo l log then ([], 1) else (shareO l (2 ^ log.toNat), 0)

theorem tlen_le (l : List Int) : ∀ k, tlen l k ≤ k
  | 0 => Nat.le_refl _
  | k + 1 => by
    have := tlen_le l k
    simp only [tlen]
    split <;> omega
theorem tlen_zero (l : List Int) : ∀ k i, tlen l k ≤ i → i < k → ¬ 0 < l.getD i 0
  | 0, i, _, h => by omega
  | k + 1, i, h1, h2 => by
    simp only [tlen] at h1
    split at h1
    · omega
    case isFalse hh =>
      by_cases e : i = k
      · subst e; exact hh
      · exact tlen_zero l k i h1 (by omega)
theorem tlen_pos (l : List Int) : ∀ k, 0 < tlen l k → 0 < l.getD (tlen l k - 1) 0
  | 0, h => by simp [tlen] at h
  | k + 1, h => by
    simp only [tlen] at h ⊢
    split
    case isTrue hh => simpa using hh
    case isFalse hh =>
      rw [if_neg hh] at h
      exact tlen_pos l k h
theorem out0_length {S all : Int} {l : List Int} {k : Nat} (hk : k ≤ l.length) : (out0 S all l k).length = tlen l k := by
  have := tlen_le l k
  unfold out0
  rw [List.length_map, List.length_take]
  omega
theorem out0_pad {S all : Int} {l : List Int} {k : Nat} (hk : k ≤ l.length) : out0 S all l k ++ List.replicate (k - tlen l k) 0 = (l.take k).map (sh0 S all) := by
  have ht := tlen_le l k
  apply List.ext_getElem
  · rw [List.length_append, out0_length hk, List.length_replicate, List.length_map, List.length_take]; omega
  · intro i h1 h2
    rw [List.length_map, List.length_take] at h2
    by_cases hi : i < tlen l k
    · rw [List.getElem_append_left (by rw [out0_length hk]; exact hi)]
      simp [out0]
    · rw [List.getElem_append_right (by rw [out0_length hk]; omega)]
      have := tlen_zero l k i (by omega) (by omega)
      rw [List.getD_eq_getElem?_getD, List.getElem?_eq_getElem (by omega)] at this
      simp only [Option.getD_some] at this
      simp [sh0, this]
theorem out0_next {S all : Int} {l : List Int} {k : Nat} (hk : k < l.length) (h : 0 < l.getD k 0) : (out0 S all l k ++ List.replicate (k - tlen l k + 1) 0).set k (max 1 (l.getD k 0 * S / all)) = out0 S all l (k + 1) := by
  have e : out0 S all l (k + 1) = (l.take k).map (sh0 S all) ++ [max 1 (l.getD k 0 * S / all)] := by
    unfold out0
    rw [show tlen l (k + 1) = k + 1 by simp only [tlen]; rw [if_pos h], List.take_add_one, List.getElem?_eq_getElem hk, List.map_append]
    rw [List.getD_eq_getElem?_getD, List.getElem?_eq_getElem hk] at h ⊢
    simp only [Option.getD_some] at h ⊢
    simp [sh0, h]
  rw [e, List.replicate_succ', ← List.append_assoc, out0_pad (by omega)]
  have hl : ((l.take k).map (sh0 S all)).length = k := by rw [List.length_map, List.length_take]; omega
  rw [List.set_append_right _ _ (by omega), hl]
  simp
theorem out0_sum_next {S all : Int} {l : List Int} {k : Nat} (hk : k < l.length) (h : 0 < l.getD k 0) : (out0 S all l (k + 1)).sum = (out0 S all l k).sum + max 1 (l.getD k 0 * S / all) := by
  have e : out0 S all l (k + 1) = (l.take k).map (sh0 S all) ++ [max 1 (l.getD k 0 * S / all)] := by
    unfold out0
    rw [show tlen l (k + 1) = k + 1 by simp only [tlen]; rw [if_pos h], List.take_add_one, List.getElem?_eq_getElem hk, List.map_append]
    rw [List.getD_eq_getElem?_getD, List.getElem?_eq_getElem hk] at h ⊢
    simp only [Option.getD_some] at h ⊢
    simp [sh0, h]
  have hz : ∀ n : Nat, (List.replicate n (0 : Int)).sum = 0 := fun n => by
    induction n with
    | zero => rfl
    | succ n ih => rw [List.replicate_succ, List.sum_cons, ih]; rfl
  rw [e, List.sum_append, ← out0_pad (by omega), List.sum_append, hz]
  simp
theorem out0_same {S all : Int} {l : List Int} {k : Nat} (h : ¬ 0 < l.getD k 0) : out0 S all l (k + 1) = out0 S all l k := by
  unfold out0
  rw [show tlen l (k + 1) = tlen l k by simp only [tlen]; rw [if_neg h]]
theorem posN_take (l : List Int) {k : Nat} (h : k < l.length) : posN (l.take (k + 1)) = posN (l.take k) + (if 0 < l.getD k 0 then 1 else 0) := by
  unfold posN
  rw [List.take_add_one, List.getElem?_eq_getElem h, List.filter_append, List.length_append, List.getD_eq_getElem?_getD, List.getElem?_eq_getElem h]
  simp only [Option.toList_some, Option.getD_some]
  by_cases hs : 0 < l[k]
  · simp [hs]
  · simp [hs]
theorem posN_le (l : List Int) : posN l ≤ l.length := List.length_filter_le _ _
theorem bumpG_length (d : Int) (l : List Int) : (bumpG d l).length = l.length := by simp [bumpG]
theorem adjN_length (d : Int) (l : List Int) : ∀ n, (adjN d n l).length = l.length
  | 0 => rfl
  | n + 1 => by rw [adjN, bumpG_length]; exact adjN_length d l n
theorem adjN_bound {d : Int} (hd : -1 ≤ d ∧ d ≤ 1) {l : List Int} {M : Int} (h : ∀ z ∈ l, -M ≤ z ∧ z ≤ M) (hM : 0 ≤ M) : ∀ n : Nat, ∀ z ∈ adjN d n l, -(M + (n : Int)) ≤ z ∧ z ≤ M + (n : Int)
  | 0, z, hz => by have := h z hz; omega
  | n + 1, z, hz => by
    have hb := adjN_bound hd h hM n
    rcases List.mem_or_eq_of_mem_set (show z ∈ (adjN d n l).set _ _ from hz) with h1 | rfl
    · have := hb z h1; omega
    · by_cases hl : gre (adjN d n l) < (adjN d n l).length
      · have := hb _ (getD_mem hl); omega
      · rw [List.getD_eq_getElem?_getD, List.getElem?_eq_none (by omega)]
        simp only [Option.getD_none]
        omega
end Go.Proofs.Ytjdpijjoblfoaaa
