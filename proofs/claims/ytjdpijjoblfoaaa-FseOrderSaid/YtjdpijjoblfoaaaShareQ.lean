/- Shares of counts: who stands more often (plain). -/
import Derived.Test.YtjdpijjoblfoaaaShareP
namespace Go.Proofs.Ytjdpijjoblfoaaa

theorem sh0_near {S all c : Int} (hS : 1 ≤ S) (ha : 1 ≤ all) (hc : 0 ≤ c) :
    -(all * (if 0 < c then 1 else 0)) ≤ all * sh0 S all c - S * c ∧ all * sh0 S all c - S * c ≤ all * (if 0 < c then 1 else 0) := by
  unfold sh0
  by_cases h : 0 < c
  · rw [if_pos h, if_pos h]
    have h1 := Int.mul_ediv_add_emod (c * S) all
    have h2 := Int.emod_nonneg (c * S) (show all ≠ 0 by omega)
    have h3 := Int.emod_lt_of_pos (c * S) (show 0 < all by omega)
    have h4 : 0 ≤ c * S / all := Int.ediv_nonneg (Int.mul_nonneg hc (by omega)) (by omega)
    have h5 : 0 < c * S := Int.mul_pos h (by omega)
    rw [Int.mul_comm S c]
    obtain ⟨q, hq⟩ : ∃ q, q = c * S / all := ⟨_, rfl⟩
    obtain ⟨m, hm⟩ : ∃ m, m = c * S := ⟨_, rfl⟩
    rw [← hq] at h1 h4 ⊢
    rw [← hm] at h1 h2 h3 h5 ⊢
    rcases Int.lt_or_le q 1 with hq1 | hq1
    · obtain rfl : q = 0 := by omega
      rw [show max 1 (0 : Int) = 1 by omega]
      rw [Int.mul_zero] at h1
      omega
    · rw [show max 1 q = q by omega]
      omega
  · rw [if_neg h, if_neg h]
    obtain rfl : c = 0 := by omega
    omega
theorem sh0_sum {S all : Int} (hS : 1 ≤ S) (ha : 1 ≤ all) : ∀ {l : List Int}, (∀ c ∈ l, 0 ≤ c) →
    -(all * (posN l : Int)) ≤ all * (l.map (sh0 S all)).sum - S * l.sum ∧ all * (l.map (sh0 S all)).sum - S * l.sum ≤ all * (posN l : Int)
  | [], _ => by simp [posN]
  | c :: l, h => by
    have h1 := sh0_near hS ha (h c (by simp))
    have h2 := sh0_sum hS ha (l := l) (fun z hz => h z (List.mem_cons_of_mem _ hz))
    have e : (posN (c :: l) : Int) = (posN l : Int) + (if 0 < c then 1 else 0) := by
      unfold posN
      rw [List.filter_cons]
      by_cases hc : 0 < c
      · rw [if_pos (by simpa using hc), if_pos hc, List.length_cons]; omega
      · rw [if_neg (by simpa using hc), if_neg hc]; omega
    rw [e, List.map_cons, List.sum_cons, List.sum_cons, Int.mul_add, Int.mul_add, Int.mul_add]
    omega
theorem sh0_mono {S all a b : Int} (hS : 1 ≤ S) (ha : 1 ≤ all) (h : a ≤ b) : sh0 S all a ≤ sh0 S all b := by
  unfold sh0
  by_cases h1 : 0 < a
  · rw [if_pos h1, if_pos (by omega)]
    have := Int.ediv_le_ediv (show 0 < all by omega) (Int.mul_le_mul_of_nonneg_right h (show 0 ≤ S by omega))
    omega
  · rw [if_neg h1]
    split <;> omega
theorem share_order {l : List Int} {log : Int} (h : ¬ ShNo l log) {i j : Nat} (hi : i < tlen l l.length) (hj : j < tlen l l.length) (hij : l.getD j 0 ≤ l.getD i 0) :
    (shareO l (2 ^ log.toNat)).getD j 0 ≤ (shareO l (2 ^ log.toNat)).getD i 0 + (tlen l l.length : Int) := by
  obtain ⟨h5, h9, h64, hb, hp, h2⟩ := shNo_not h
  have hS := pow_logN ⟨h5, h9⟩
  obtain ⟨S, hSS⟩ : ∃ S : Nat, S = 2 ^ log.toNat := ⟨_, rfl⟩
  rw [← hSS] at hS ⊢
  have hb0 : ∀ z ∈ l, 0 ≤ z := fun z hz => by
    obtain ⟨k, hk, rfl⟩ := mem_getD hz
    have := hb k hk
    unfold CtBad at this
    omega
  have hall : 1 ≤ l.sum := by
    obtain ⟨z, hz⟩ : ∃ z, z ∈ l.filter (fun c => decide (0 < c)) := by
      unfold posN at hp
      exact List.exists_mem_of_length_pos hp
    rw [List.mem_filter] at hz
    obtain ⟨k, hk, rfl⟩ := mem_getD hz.1
    have h1 := sum_ge hb0 (i := k)
    have h2 : 0 < l.getD k 0 := by simpa using hz.2
    omega
  obtain ⟨O, hO⟩ : ∃ O, O = out0 (S : Int) l.sum l l.length := ⟨_, rfl⟩
  have hOp : posN O = posN l := by rw [hO, posN_out _ (Nat.le_refl _), List.take_length]
  have hOl : O.length = tlen l l.length := by rw [hO]; exact out0_length (Nat.le_refl _)
  have hle := posN_le O
  have hsum : O.sum = (l.map (sh0 (S : Int) l.sum)).sum := by
    have e := out0_pad (S := (S : Int)) (all := l.sum) (l := l) (Nat.le_refl l.length)
    rw [List.take_length, ← hO] at e
    have hz : ∀ n : Nat, (List.replicate n (0 : Int)).sum = 0 := fun n => by
      induction n with
      | zero => rfl
      | succ n ih => rw [List.replicate_succ, List.sum_cons, ih]; rfl
    rw [← e, List.sum_append, hz]; omega
  have hn := sh0_sum (S := (S : Int)) (by omega) hall hb0
  rw [← hsum, Int.mul_comm (S : Int), ← Int.mul_sub, ← Int.mul_neg] at hn
  have n1 : -(posN l : Int) ≤ O.sum - (S : Int) := Int.le_of_mul_le_mul_left hn.1 (by omega)
  have n2 : O.sum - (S : Int) ≤ (posN l : Int) := Int.le_of_mul_le_mul_left hn.2 (by omega)
  have hm := sh0_mono (S := (S : Int)) (by omega) hall hij
  have oi : O.getD i 0 = sh0 (S : Int) l.sum (l.getD i 0) := by rw [hO]; exact out0_get hi
  have oj : O.getD j 0 = sh0 (S : Int) l.sum (l.getD j 0) := by rw [hO]; exact out0_get hj
  unfold shareO
  rw [← hO]
  by_cases hc : (S : Int) < O.sum
  · rw [if_pos hc]
    have g1 := (adj_range (O := O) (d := -1) (.inl rfl) (O.sum - (S : Int)).toNat i).1 rfl
    have g2 := (adj_range (O := O) (d := -1) (.inl rfl) (O.sum - (S : Int)).toNat j).1 rfl
    omega
  · rw [if_neg hc]
    have g1 := (adj_range (O := O) (d := 1) (.inr rfl) ((S : Int) - O.sum).toNat i).2 rfl
    have g2 := (adj_range (O := O) (d := 1) (.inr rfl) ((S : Int) - O.sum).toNat j).2 rfl
    omega
end Go.Proofs.Ytjdpijjoblfoaaa
