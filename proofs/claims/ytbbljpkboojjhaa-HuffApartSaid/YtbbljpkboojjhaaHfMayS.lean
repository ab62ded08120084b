/- May lengths be? Plain. -/
import Derived.Test.YtbbljpkboojjhaaHfLenS
namespace Go.Proofs.Ytbbljpkboojjhaa

theorem pow2_le : ∀ (a c : Nat), (2 : Int) ^ a ≤ 2 ^ (a + c)
  | a, 0 => Int.le_refl _
  | a, c + 1 => by
    have := pow2_le a c
    have h : (0 : Int) < 2 ^ (a + c) := Int.pow_pos (by omega)
    rw [← Nat.add_assoc, Int.pow_succ]
    omega
theorem pow2_mono {a b : Nat} (h : a ≤ b) : (2 : Int) ^ a ≤ 2 ^ b := by
  obtain ⟨c, rfl⟩ := Nat.exists_eq_add_of_le h
  exact pow2_le a c
def kSum (l : List Int) : Nat → Int
  | 0 => 0
  | k + 1 => kSum l k + (if 0 < l.getD k 0 then 2 ^ (11 - (l.getD k 0).toNat) else 0)
def kCnt (l : List Int) : Nat → Int
  | 0 => 0
  | k + 1 => kCnt l k + (if 0 < l.getD k 0 then 1 else 0)
def inK (l : List Int) : Prop := ∀ i, i < l.length → 0 ≤ l.getD i 0 ∧ l.getD i 0 ≤ 11
instance (l : List Int) : Decidable (inK l) := by unfold inK; exact inferInstance
def HMay (l : List Int) : Prop := (0 < l.length ∧ l.length ≤ 256 ∧ l.getD (l.length - 1) 0 ≠ 0) ∧ inK l ∧ (kSum l l.length = 2048 ∨ (kCnt l l.length = 1 ∧ l.getD (l.length - 1) 0 = 1))
instance (l : List Int) : Decidable (HMay l) := by unfold HMay; exact inferInstance

theorem kSum_bound (l : List Int) : ∀ k, 0 ≤ kSum l k ∧ kSum l k ≤ 2048 * (k : Int)
  | 0 => by simp [kSum]
  | k + 1 => by
    have := kSum_bound l k
    simp only [kSum]
    split
    · have h1 : (0 : Int) < 2 ^ (11 - (l.getD k 0).toNat) := Int.pow_pos (by omega)
      have h2 : (2 : Int) ^ (11 - (l.getD k 0).toNat) ≤ 2 ^ 11 := pow2_mono (by omega)
      have h3 : (2 : Int) ^ 11 = 2048 := by decide
      omega
    · omega
theorem kCnt_bound (l : List Int) : ∀ k, 0 ≤ kCnt l k ∧ kCnt l k ≤ (k : Int)
  | 0 => by simp [kCnt]
  | k + 1 => by
    have := kCnt_bound l k
    simp only [kCnt]
    split <;> omega
/-- one that stands: half of all at most -/
theorem kSum_one (l : List Int) : ∀ k, kSum l k ≤ 1024 * kCnt l k
  | 0 => by simp [kSum, kCnt]
  | k + 1 => by
    have := kSum_one l k
    simp only [kSum, kCnt]
    split
    · rename_i h
      have h2 : (2 : Int) ^ (11 - (l.getD k 0).toNat) ≤ 2 ^ 10 := pow2_mono (by omega)
      have h3 : (2 : Int) ^ 10 = 1024 := by decide
      omega
    · omega
theorem hMay_ref {l : List Int} : (kSum l l.length = 2048 ∨ (kCnt l l.length = 1 ∧ l.getD (l.length - 1) 0 = 1)) ↔ (if kCnt l l.length = 1 then l.getD (l.length - 1) 0 = 1 else kSum l l.length = 2048) := by
  have := kSum_one l l.length
  split
  · rename_i h
    refine ⟨fun h1 => ?_, fun h1 => .inr ⟨h, h1⟩⟩
    rcases h1 with h1 | h1
    · omega
    · exact h1.2
  · rename_i h
    refine ⟨fun h1 => ?_, fun h1 => .inl h1⟩
    rcases h1 with h1 | h1
    · exact h1
    · exact absurd h1.1 h
end Go.Proofs.Ytbbljpkboojjhaa
