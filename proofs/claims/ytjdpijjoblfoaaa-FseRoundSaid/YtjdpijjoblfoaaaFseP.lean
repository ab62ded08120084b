/- The table of a share: each symbol has as many places as its share. -/
import Derived.Test.YtjdpijjoblfoaaaFseMay
namespace Go.Proofs.Ytjdpijjoblfoaaa

/-- how many of a row are s -/
def cntL (l : List Int) (s : Int) : Nat := (l.filter (fun x => decide (x = s))).length
theorem cntL_cons (x s : Int) (l : List Int) : cntL (x :: l) s = (if x = s then 1 else 0) + cntL l s := by
  unfold cntL
  rw [List.filter_cons]
  by_cases h : x = s
  · simp [h]; omega
  · simp [h]
theorem cntL_append (a b : List Int) (s : Int) : cntL (a ++ b) s = cntL a s + cntL b s := by
  unfold cntL
  rw [List.filter_append, List.length_append]
theorem cntL_set (s y : Int) : ∀ (l : List Int) (i : Nat), i < l.length → cntL (l.set i y) s + (if l.getD i 0 = s then 1 else 0) = cntL l s + (if y = s then 1 else 0)
  | [], i, h => by simp at h
  | x :: l, 0, _ => by
    rw [List.set_cons_zero, cntL_cons, cntL_cons]
    simp only [List.getD_cons_zero]
    omega
  | x :: l, i + 1, h => by
    rw [List.set_cons_succ, cntL_cons, cntL_cons]
    simp only [List.getD_cons_succ]
    have := cntL_set s y l i (by simpa using h)
    omega
theorem cntL_rep (s y : Int) (n : Nat) : cntL (List.replicate n y) s = if y = s then n else 0 := by
  induction n with
  | zero => simp [cntL]
  | succ n ih =>
    rw [List.replicate_succ, cntL_cons, ih]
    split
    · omega
    · rfl
theorem cntL_pos {l : List Int} {s : Int} {i : Nat} (h : i < l.length) (hs : l.getD i 0 = s) : 0 < cntL l s := by
  unfold cntL
  have : s ∈ l.filter (fun x => decide (x = s)) := by
    rw [List.mem_filter]
    refine ⟨?_, by simp⟩
    rw [← hs]
    exact getD_mem h
  exact List.length_pos_of_mem this

theorem posP_length (P : List Int) (s : Int) : ∀ k, k ≤ P.length → (posP P s k).length = cntL (P.take k) s
  | 0, _ => by simp [posP, cntL]
  | k + 1, h => by
    rw [List.take_add_one, List.getElem?_eq_getElem (by omega), cntL_append, ← posP_length P s k (by omega)]
    have e : P.getD k 0 = P[k] := by rw [List.getD_eq_getElem?_getD, List.getElem?_eq_getElem (by omega)]; rfl
    simp only [posP]
    rw [e]
    by_cases hh : P[k] = s
    · rw [if_pos hh, List.length_append]; simp [cntL, hh]
    · rw [if_neg hh]; simp [cntL, hh]


set_option maxRecDepth 100000 in
theorem step_inj {S : Nat} (hS : S = 32 ∨ S = 64 ∨ S = 128 ∨ S = 256 ∨ S = 512) {i j : Nat} (hi : i < S) (hj : j < S) (h : i * (S / 2 + S / 8 + 3) % S = j * (S / 2 + S / 8 + 3) % S) : i = j := by
  rcases hS with rfl | rfl | rfl | rfl | rfl
  · have e : ∀ i : Nat, i < 32 → (i * 23 % 32) * 7 % 32 = i := fun i hi => by rw [Nat.mod_mul_mod, Nat.mul_assoc]; omega
    rw [show 32 / 2 + 32 / 8 + 3 = 23 from rfl] at h
    have h1 : i * 23 % 32 = j * 23 % 32 := h
    rw [← e i hi, h1, e j hj]
  · have e : ∀ i : Nat, i < 64 → (i * 43 % 64) * 3 % 64 = i := fun i hi => by rw [Nat.mod_mul_mod, Nat.mul_assoc]; omega
    rw [show 64 / 2 + 64 / 8 + 3 = 43 from rfl] at h
    have h1 : i * 43 % 64 = j * 43 % 64 := h
    rw [← e i hi, h1, e j hj]
  · have e : ∀ i : Nat, i < 128 → (i * 83 % 128) * 91 % 128 = i := fun i hi => by rw [Nat.mod_mul_mod, Nat.mul_assoc]; omega
    rw [show 128 / 2 + 128 / 8 + 3 = 83 from rfl] at h
    have h1 : i * 83 % 128 = j * 83 % 128 := h
    rw [← e i hi, h1, e j hj]
  · have e : ∀ i : Nat, i < 256 → (i * 163 % 256) * 11 % 256 = i := fun i hi => by rw [Nat.mod_mul_mod, Nat.mul_assoc]; omega
    rw [show 256 / 2 + 256 / 8 + 3 = 163 from rfl] at h
    have h1 : i * 163 % 256 = j * 163 % 256 := h
    rw [← e i hi, h1, e j hj]
  · have e : ∀ i : Nat, i < 512 → (i * 323 % 512) * 363 % 512 = i := fun i hi => by rw [Nat.mod_mul_mod, Nat.mul_assoc]; omega
    rw [show 512 / 2 + 512 / 8 + 3 = 323 from rfl] at h
    have h1 : i * 323 % 512 = j * 323 % 512 := h
    rw [← e i hi, h1, e j hj]
theorem step_at_mod {S K : Nat} (_hS : 0 < S) : stepS S (K * (S / 2 + S / 8 + 3) % S) = (K + 1) * (S / 2 + S / 8 + 3) % S := by
  unfold stepS
  rw [Nat.succ_mul, show K * (S / 2 + S / 8 + 3) % S + S / 2 + S / 8 + 3 = K * (S / 2 + S / 8 + 3) % S + (S / 2 + S / 8 + 3) by omega, Nat.mod_add_mod]

/-- behind K steps: what was laid, what was not -/
structure Laid (S : Nat) (P : List Int) (at_ K : Nat) : Prop where
  len : P.length = S
  at_ : at_ = K * (S / 2 + S / 8 + 3) % S
  blank : ∀ p, p < S → (∀ i, i < K → p ≠ i * (S / 2 + S / 8 + 3) % S) → P.getD p 0 = -1

theorem fill_law {S : Nat} (hS : S = 32 ∨ S = 64 ∨ S = 128 ∨ S = 256 ∨ S = 512) (s : Int) (hs : s ≠ -1) {P : List Int} {at_ K : Nat} (h : Laid S P at_ K) : ∀ n, K + n ≤ S →
    Laid S (fillS S s (P, at_) n).1 (fillS S s (P, at_) n).2 (K + n) ∧ (∀ x, x ≠ -1 → cntL (fillS S s (P, at_) n).1 x = cntL P x + (if x = s then n else 0)) ∧ cntL (fillS S s (P, at_) n).1 (-1) + n = cntL P (-1)
  | 0, _ => ⟨h, fun x _ => by simp [fillS], by simp [fillS]⟩
  | n + 1, hn => by
    obtain ⟨h1, h2, h3⟩ := fill_law hS s hs h n (by omega)
    have hS0 : 0 < S := by omega
    obtain ⟨Q, q, hQ⟩ : ∃ Q q, fillS S s (P, at_) n = (Q, q) := ⟨_, _, rfl⟩
    have e : fillS S s (P, at_) (n + 1) = (Q.set q s, stepS S q) := by simp only [fillS, hQ]
    rw [hQ] at h1 h2 h3
    rw [e]
    dsimp only at h1 h2 h3 ⊢
    have hq : q < S := by rw [h1.at_]; exact Nat.mod_lt _ hS0
    have hb : Q.getD q 0 = -1 := h1.blank q hq (fun i hi he => by
      rw [h1.at_] at he
      have := step_inj hS (by omega) (by omega) he
      omega)
    refine ⟨⟨by rw [List.length_set]; exact h1.len, by rw [h1.at_]; exact step_at_mod hS0, fun p hp hno => ?_⟩, fun x hx => ?_, ?_⟩
    · have hpq : q ≠ p := fun e => hno (K + n) (by omega) (by rw [← e]; exact h1.at_)
      rw [List.getD_eq_getElem?_getD, List.getElem?_set_ne hpq, ← List.getD_eq_getElem?_getD]
      exact h1.blank p hp (fun i hi => hno i (by omega))
    · have := cntL_set x s Q q (by rw [h1.len]; exact hq)
      rw [hb, if_neg (fun e => hx e.symm), h2 x hx] at this
      by_cases hxs : x = s
      · rw [if_pos hxs, if_pos hxs.symm] at this; rw [if_pos hxs]; omega
      · have hsx : ¬ s = x := fun e => hxs e.symm
        rw [if_neg hxs, if_neg hsx] at this; rw [if_neg hxs]; omega
    · have := cntL_set (-1) s Q q (by rw [h1.len]; exact hq)
      rw [hb, if_pos rfl, if_neg hs] at this
      omega

/-- the same with blanks -/
def spreadB (S : Nat) (share : List Int) : Nat → List Int × Nat
  | 0 => (List.replicate S (-1), 0)
  | k + 1 => fillS S k (spreadB S share k) (share.getD k 0).toNat
theorem fill_rel (S : Nat) (s : Int) {P Q : List Int} {q : Nat} (hl : P.length = Q.length) (h : ∀ p, P.getD p 0 = Q.getD p 0 ∨ Q.getD p 0 = -1) : ∀ n,
    (fillS S s (P, q) n).2 = (fillS S s (Q, q) n).2 ∧ (fillS S s (P, q) n).1.length = (fillS S s (Q, q) n).1.length ∧ ∀ p, (fillS S s (P, q) n).1.getD p 0 = (fillS S s (Q, q) n).1.getD p 0 ∨ (fillS S s (Q, q) n).1.getD p 0 = -1
  | 0 => ⟨rfl, hl, h⟩
  | n + 1 => by
    obtain ⟨h1, h2, h3⟩ := fill_rel S s hl h n
    simp only [fillS]
    rw [h1]
    refine ⟨rfl, by rw [List.length_set, List.length_set]; exact h2, fun p => ?_⟩
    simp only [List.getD_eq_getElem?_getD, List.getElem?_set] at h3 ⊢
    rw [h2]
    split
    · exact .inl rfl
    · exact h3 p
theorem spread_rel (S : Nat) (share : List Int) : ∀ k, (spreadS S share k).2 = (spreadB S share k).2 ∧ (spreadS S share k).1.length = (spreadB S share k).1.length ∧ ∀ p, (spreadS S share k).1.getD p 0 = (spreadB S share k).1.getD p 0 ∨ (spreadB S share k).1.getD p 0 = -1
  | 0 => ⟨rfl, by simp [spreadS, spreadB], fun p => by
      by_cases hp : p < S
      · right; simp [spreadB, List.getD_eq_getElem?_getD, hp]
      · left; simp [spreadS, spreadB, List.getD_eq_getElem?_getD, hp]⟩
  | k + 1 => by
    obtain ⟨h1, h2, h3⟩ := spread_rel S share k
    have h := fill_rel S k (q := (spreadB S share k).2) h2 h3 (share.getD k 0).toNat
    simp only [spreadS, spreadB]
    rw [show spreadS S share k = ((spreadS S share k).1, (spreadB S share k).2) from by rw [← h1]]
    exact h
/-- how many steps the first k symbols take -/
def sumN (share : List Int) (k : Nat) : Nat := ((share.take k).sum).toNat
theorem sumN_succ {share : List Int} (h : ∀ z ∈ share, 0 ≤ z) {k : Nat} (hk : k < share.length) : sumN share (k + 1) = sumN share k + (share.getD k 0).toNat := by
  unfold sumN
  rw [sum_take share hk]
  have h1 := h _ (getD_mem hk)
  have h2 := sum_nonneg (zs := share.take k) (fun z hz => h z (List.mem_of_mem_take hz))
  omega
theorem sumN_le {share : List Int} (h : ∀ z ∈ share, 0 ≤ z) : ∀ k, k ≤ share.length → sumN share k ≤ share.sum.toNat := by
  intro k hk
  have e : share.sum = (share.take k).sum + (share.drop k).sum := by rw [← List.sum_append, List.take_append_drop]
  have h1 := sum_nonneg (zs := share.take k) (fun z hz => h z (List.mem_of_mem_take hz))
  have h2 := sum_nonneg (zs := share.drop k) (fun z hz => h z (List.mem_of_mem_drop hz))
  unfold sumN
  omega
theorem spreadB_law {S : Nat} (hS : S = 32 ∨ S = 64 ∨ S = 128 ∨ S = 256 ∨ S = 512) {share : List Int} (h : ∀ z ∈ share, 0 ≤ z) (hsum : share.sum.toNat ≤ S) : ∀ k, k ≤ share.length →
    Laid S (spreadB S share k).1 (spreadB S share k).2 (sumN share k) ∧ (∀ j : Nat, cntL (spreadB S share k).1 j = if j < k then (share.getD j 0).toNat else 0) ∧ cntL (spreadB S share k).1 (-1) + sumN share k = S
  | 0, _ => by
    refine ⟨⟨by simp [spreadB], by simp [spreadB, sumN], fun p hp _ => by simp [spreadB, List.getD_eq_getElem?_getD, hp]⟩, fun j => ?_, ?_⟩
    · simp only [spreadB]; rw [cntL_rep, if_neg (by omega)]; simp
    · simp only [spreadB]; rw [cntL_rep, if_pos rfl]; simp [sumN]
  | k + 1, hk => by
    obtain ⟨h1, h2, h3⟩ := spreadB_law hS h hsum k (by omega)
    have e := sumN_succ h (show k < share.length by omega)
    have hle := sumN_le h (k + 1) hk
    obtain ⟨g1, g2, g3⟩ := fill_law hS (k : Int) (by omega) h1 (share.getD k 0).toNat (by omega)
    rw [show ((spreadB S share k).1, (spreadB S share k).2) = spreadB S share k from rfl] at g1 g2 g3
    simp only [spreadB]
    rw [e]
    refine ⟨g1, fun j => ?_, by omega⟩
    have := g2 (j : Int) (by omega)
    rw [this, h2 j]
    by_cases hj : j = k
    · subst hj; simp
    · by_cases hj2 : j < k
      · rw [if_pos hj2, if_neg (by omega), if_pos (by omega)]; omega
      · rw [if_neg hj2, if_neg (by omega), if_neg (by omega)]
theorem pow_logN {log : Int} (h : 5 ≤ log ∧ log ≤ 9) : 32 ≤ 2 ^ log.toNat ∧ 2 ^ log.toNat ≤ 512 := by
  have : log = 5 ∨ log = 6 ∨ log = 7 ∨ log = 8 ∨ log = 9 := by omega
  rcases this with rfl | rfl | rfl | rfl | rfl <;> decide
theorem size_log {log : Int} (h : 5 ≤ log ∧ log ≤ 9) : 2 ^ log.toNat = 32 ∨ 2 ^ log.toNat = 64 ∨ 2 ^ log.toNat = 128 ∨ 2 ^ log.toNat = 256 ∨ 2 ^ log.toNat = 512 := by
  have : log = 5 ∨ log = 6 ∨ log = 7 ∨ log = 8 ∨ log = 9 := by omega
  rcases this with rfl | rfl | rfl | rfl | rfl <;> decide
theorem share_size {zs : List Int} {log : Int} (hm : ShMay zs log) : zs.sum.toNat = 2 ^ log.toNat := by
  have h := hm.2.2.2.2.2.2
  have e : (2 : Int) ^ log.toNat = ((2 ^ log.toNat : Nat) : Int) := by simp
  rw [h, e, Int.toNat_natCast]
/-- no place is blank; each symbol has its share -/
theorem symP_law {zs : List Int} {log : Int} (hm : ShMay zs log) : (symP (2 ^ log.toNat) zs).length = 2 ^ log.toNat ∧ (∀ j : Nat, cntL (symP (2 ^ log.toNat) zs) j = if j < zs.length then (zs.getD j 0).toNat else 0) ∧ symP (2 ^ log.toNat) zs = (spreadB (2 ^ log.toNat) zs zs.length).1 := by
  have hs := share_size hm
  obtain ⟨h1, h2, h3⟩ := spreadB_law (size_log ⟨hm.1, hm.2.1⟩) hm.2.2.2.2.2.1 (by omega) zs.length (Nat.le_refl _)
  obtain ⟨r1, r2, r3⟩ := spread_rel (2 ^ log.toNat) zs zs.length
  have hz : sumN zs zs.length = 2 ^ log.toNat := by unfold sumN; rw [List.take_length]; exact hs
  have e : symP (2 ^ log.toNat) zs = (spreadB (2 ^ log.toNat) zs zs.length).1 := by
    unfold symP
    apply List.ext_getElem r2
    intro i g1 g2
    have := r3 i
    rw [List.getD_eq_getElem?_getD, List.getD_eq_getElem?_getD, List.getElem?_eq_getElem g1, List.getElem?_eq_getElem g2] at this
    simp only [Option.getD_some] at this
    rcases this with h | h
    · exact h
    · have := cntL_pos (s := -1) g2 (by rw [List.getD_eq_getElem?_getD, List.getElem?_eq_getElem g2]; exact h)
      omega
  rw [e]
  exact ⟨h1.len, h2, rfl⟩
theorem posP_share {zs : List Int} {log : Int} (hm : ShMay zs log) {j : Nat} (hj : j < zs.length) : (posP (symP (2 ^ log.toNat) zs) j (2 ^ log.toNat)).length = (zs.getD j 0).toNat := by
  obtain ⟨h1, h2, _⟩ := symP_law hm
  rw [posP_length _ _ _ (by omega), List.take_of_length_le (by omega), h2 j, if_pos hj]
end Go.Proofs.Ytjdpijjoblfoaaa
