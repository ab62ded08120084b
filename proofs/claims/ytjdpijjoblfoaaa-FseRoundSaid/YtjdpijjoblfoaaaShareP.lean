/- Shares of counts: what they are (plain). -/
import Derived.Test.YtjdpijjoblfoaaaShare
namespace Go.Proofs.Ytjdpijjoblfoaaa

theorem sum_set (l : List Int) : ∀ (i : Nat) (y : Int), i < l.length → (l.set i y).sum = l.sum + (y - l.getD i 0) := by
  induction l with
  | nil => intro i y h; simp at h
  | cons x l ih =>
    intro i y h
    cases i with
    | zero => simp [List.sum_cons]; omega
    | succ i =>
      rw [List.set_cons_succ, List.sum_cons, List.sum_cons, ih i y (by simpa using h)]
      simp only [List.getD_cons_succ]
      omega
theorem sum_pos_le {l : List Int} {m : Int} (h : ∀ z ∈ l, 0 ≤ z ∧ z ≤ m) : l.sum ≤ (posN l : Int) * m := by
  induction l with
  | nil => simp [posN]
  | cons x l ih =>
    have h0 := h x (by simp)
    have h1 := ih (fun z hz => h z (List.mem_cons_of_mem _ hz))
    rw [List.sum_cons]
    unfold posN at h1 ⊢
    rw [List.filter_cons]
    by_cases hx : 0 < x
    · rw [if_pos (by simpa using hx), List.length_cons, show (((l.filter fun c => decide (0 < c)).length + 1 : Nat) : Int) = ((l.filter fun c => decide (0 < c)).length : Int) + 1 by omega, Int.add_mul]
      omega
    · rw [if_neg (by simpa using hx)]
      omega
theorem posN_congr : ∀ {a b : List Int}, a.length = b.length → (∀ i, i < a.length → (0 < a.getD i 0 ↔ 0 < b.getD i 0)) → posN a = posN b
  | [], [], _, _ => rfl
  | x :: a, y :: b, hl, h => by
    have h0 := h 0 (by simp)
    have h1 := posN_congr (a := a) (b := b) (by simpa using hl) (fun i hi => by have := h (i + 1) (by simpa using hi); simpa using this)
    simp only [List.getD_cons_zero] at h0
    unfold posN at h1 ⊢
    rw [List.filter_cons, List.filter_cons]
    by_cases hx : 0 < x
    · rw [if_pos (by simpa using hx), if_pos (by simpa using h0.1 hx), List.length_cons, List.length_cons, h1]
    · rw [if_neg (by simpa using hx), if_neg (by simpa using fun e => hx (h0.2 e)), h1]
/-- one step from a row of shares -/
theorem bump_keeps {l : List Int} {d : Int} (h0 : ∀ z ∈ l, 0 ≤ z) (hp : 1 ≤ l.getD (gre l) 0 + d) (hg : gre l < l.length) (hg1 : 1 ≤ l.getD (gre l) 0) :
    (bumpG d l).length = l.length ∧ (bumpG d l).sum = l.sum + d ∧ (∀ z ∈ bumpG d l, 0 ≤ z) ∧ (∀ i, i < l.length → (0 < (bumpG d l).getD i 0 ↔ 0 < l.getD i 0)) := by
  refine ⟨bumpG_length d l, by unfold bumpG; rw [sum_set _ _ _ hg]; omega, fun z hz => ?_, fun i hi => ?_⟩
  · rcases List.mem_or_eq_of_mem_set (show z ∈ l.set _ _ from hz) with h1 | rfl
    · exact h0 z h1
    · omega
  · unfold bumpG
    by_cases e : i = gre l
    · subst e
      rw [List.getD_eq_getElem?_getD, List.getElem?_set_self hi]
      simp only [Option.getD_some]
      omega
    · rw [List.getD_eq_getElem?_getD, List.getElem?_set_ne (fun h => e h.symm), ← List.getD_eq_getElem?_getD]
theorem adj_whole {O : List Int} {d : Int} {S : Nat} (hd : (d = -1 ∧ (S : Int) < O.sum) ∨ (d = 1 ∧ O.sum ≤ (S : Int))) (h0 : ∀ z ∈ O, 0 ≤ z) (hp : 0 < posN O) (h2 : 2 * posN O ≤ S) :
    ∀ n : Nat, (d = -1 → (n : Int) ≤ O.sum - S) → (adjN d n O).length = O.length ∧ (adjN d n O).sum = O.sum + d * n ∧ (∀ z ∈ adjN d n O, 0 ≤ z) ∧ (∀ i, i < O.length → (0 < (adjN d n O).getD i 0 ↔ 0 < O.getD i 0))
  | 0, _ => ⟨rfl, by simp [adjN], h0, fun _ _ => Iff.rfl⟩
  | n + 1, hn => by
    obtain ⟨g1, g2, g3, g4⟩ := adj_whole hd h0 hp h2 n (fun h => by have := hn h; omega)
    obtain ⟨l, hl⟩ : ∃ l, l = adjN d n O := ⟨_, rfl⟩
    rw [← hl] at g1 g2 g3 g4
    have hpn : posN l = posN O := posN_congr g1 (fun i hi => g4 i (by omega))
    have hl0 : 0 < l.length := by
      have := posN_le l
      omega
    have hg : gre l < l.length := greK_lt l _ hl0
    have hmx : ∀ z ∈ l, 0 ≤ z ∧ z ≤ l.getD (gre l) 0 := fun z hz => by
      obtain ⟨i, hi, rfl⟩ := mem_getD hz
      exact ⟨g3 _ hz, greK_max l _ i hi⟩
    have hs := sum_pos_le hmx
    rw [hpn] at hs
    have hg1 : 1 ≤ l.getD (gre l) 0 := by
      rcases Int.lt_or_le (l.getD (gre l) 0) 1 with h | h
      · exfalso
        have : posN l = 0 := by
          unfold posN
          rw [List.length_eq_zero_iff, List.filter_eq_nil_iff]
          intro z hz hpos
          have h1 := hmx z hz
          have h2 := of_decide_eq_true hpos
          omega
        omega
      · exact h
    have hp1 : 1 ≤ l.getD (gre l) 0 + d := by
      rcases hd with ⟨rfl, hS⟩ | ⟨rfl, _⟩
      · rcases Int.lt_or_le (l.getD (gre l) 0) 2 with h | h
        · exfalso
          have e1 : l.getD (gre l) 0 = 1 := by omega
          rw [e1, Int.mul_one] at hs
          have := hn rfl
          omega
        · omega
      · omega
    obtain ⟨k1, k2, k3, k4⟩ := bump_keeps (d := d) g3 hp1 hg hg1
    simp only [adjN]
    rw [← hl]
    refine ⟨by omega, ?_, k3, fun i hi => (k4 i (by omega)).trans (g4 i hi)⟩
    rw [k2, g2, show ((n + 1 : Nat) : Int) = (n : Int) + 1 by omega, Int.mul_add]
    omega
theorem adj_range {O : List Int} {d : Int} (hd : d = -1 ∨ d = 1) : ∀ (n i : Nat), (d = -1 → O.getD i 0 - (n : Int) ≤ (adjN d n O).getD i 0 ∧ (adjN d n O).getD i 0 ≤ O.getD i 0) ∧ (d = 1 → O.getD i 0 ≤ (adjN d n O).getD i 0 ∧ (adjN d n O).getD i 0 ≤ O.getD i 0 + (n : Int))
  | 0, i => by simp [adjN]
  | n + 1, i => by
    have h := adj_range hd (O := O) n i
    simp only [adjN, bumpG]
    by_cases hl : gre (adjN d n O) < (adjN d n O).length
    · by_cases e : i = gre (adjN d n O)
      · rw [e] at h ⊢
        rw [show ((adjN d n O).set (gre (adjN d n O)) ((adjN d n O).getD (gre (adjN d n O)) 0 + d)).getD (gre (adjN d n O)) 0 = (adjN d n O).getD (gre (adjN d n O)) 0 + d from by rw [List.getD_eq_getElem?_getD, List.getElem?_set_self hl]; rfl]
        exact ⟨fun hh => by have := h.1 hh; omega, fun hh => by have := h.2 hh; omega⟩
      · rw [show ((adjN d n O).set (gre (adjN d n O)) ((adjN d n O).getD (gre (adjN d n O)) 0 + d)).getD i 0 = (adjN d n O).getD i 0 from by rw [List.getD_eq_getElem?_getD, List.getElem?_set_ne (fun hh => e hh.symm), ← List.getD_eq_getElem?_getD]]
        exact ⟨fun hh => by have := h.1 hh; omega, fun hh => by have := h.2 hh; omega⟩
    · rw [List.set_eq_of_length_le (by omega)]
      exact ⟨fun hh => by have := h.1 hh; omega, fun hh => by have := h.2 hh; omega⟩

/-- what stands of the counts -/
theorem shNo_not {l : List Int} {log : Int} (h : ¬ ShNo l log) : 5 ≤ log ∧ log ≤ 9 ∧ l.length ≤ 64 ∧ (∀ i, i < l.length → ¬ CtBad (l.getD i 0)) ∧ 0 < posN l ∧ 2 * posN l ≤ 2 ^ log.toNat := by
  unfold ShNo at h
  refine ⟨by omega, by omega, by omega, fun i hi hb => h (.inr (.inr (.inr (.inl ⟨_, getD_mem hi, hb⟩)))), by omega, by omega⟩
theorem out0_get {S all : Int} {l : List Int} {i : Nat} (hi : i < tlen l l.length) : (out0 S all l l.length).getD i 0 = sh0 S all (l.getD i 0) := by
  have ht := tlen_le l l.length
  unfold out0
  rw [List.getD_eq_getElem?_getD, List.getD_eq_getElem?_getD, List.getElem?_map, List.getElem?_take, if_pos hi, List.getElem?_eq_getElem (by omega)]
  rfl
theorem sh0_pos {S all c : Int} : 0 < sh0 S all c ↔ 0 < c := by
  unfold sh0
  split <;> omega
theorem posN_out {S all : Int} {l : List Int} : ∀ k, k ≤ l.length → posN (out0 S all l k) = posN (l.take k)
  | 0, _ => by simp [out0, tlen]
  | k + 1, hk => by
    rw [posN_take l (by omega), ← posN_out (S := S) (all := all) k (by omega)]
    by_cases h : 0 < l.getD k 0
    · rw [if_pos h]
      have e : out0 S all l (k + 1) = (l.take k).map (sh0 S all) ++ [sh0 S all (l.getD k 0)] := by
        unfold out0
        rw [show tlen l (k + 1) = k + 1 by simp only [tlen]; rw [if_pos h], List.take_add_one, List.getElem?_eq_getElem (by omega), List.map_append, List.getD_eq_getElem?_getD, List.getElem?_eq_getElem (by omega)]
        rfl
      rw [e]
      unfold posN
      rw [List.filter_append, List.length_append]
      have h1 := (sh0_pos (S := S) (all := all)).2 h
      have e2 : (l.take k).map (sh0 S all) = out0 S all l k ++ List.replicate (k - tlen l k) 0 := (out0_pad (by omega)).symm
      have hz : (List.replicate (k - tlen l k) (0 : Int)).filter (fun c => decide (0 < c)) = [] := List.filter_eq_nil_iff.2 (fun z hz => by rw [List.eq_of_mem_replicate hz]; simp)
      obtain ⟨c, hc⟩ : ∃ c, sh0 S all (l.getD k 0) = c := ⟨_, rfl⟩
      rw [hc] at h1
      rw [hc, e2, List.filter_append, List.length_append, hz, List.filter_cons, if_pos (by simpa using h1)]
      rfl
    · rw [if_neg h, out0_same h]; rfl

theorem share_whole {l : List Int} {log : Int} (h : ¬ ShNo l log) :
    ShMay (shareO l (2 ^ log.toNat)) log ∧ (shareO l (2 ^ log.toNat)).length = tlen l l.length ∧ ∀ i, i < tlen l l.length → (0 < (shareO l (2 ^ log.toNat)).getD i 0 ↔ 0 < l.getD i 0) := by
  obtain ⟨h5, h9, h64, hb, hp, h2⟩ := shNo_not h
  have hS := pow_logN ⟨h5, h9⟩
  obtain ⟨O, hO⟩ : ∃ O, O = out0 ((2 ^ log.toNat : Nat) : Int) l.sum l l.length := ⟨_, rfl⟩
  have hO0 : ∀ z ∈ O, 0 ≤ z := fun z hz => by rw [hO] at hz; exact (out0_bound (by omega) hb z hz).1
  have hOp : posN O = posN l := by rw [hO, posN_out _ (Nat.le_refl _), List.take_length]
  have hOl : O.length = tlen l l.length := by rw [hO]; exact out0_length (Nat.le_refl _)
  have hL0 : 0 < tlen l l.length := by
    have := posN_le O
    omega
  have hdm : ∃ (d : Int) (M : Nat), ((d = -1 ∧ ((2 ^ log.toNat : Nat) : Int) < O.sum) ∨ (d = 1 ∧ O.sum ≤ ((2 ^ log.toNat : Nat) : Int))) ∧ (d = -1 → (M : Int) ≤ O.sum - ((2 ^ log.toNat : Nat) : Int)) ∧ shareO l (2 ^ log.toNat) = adjN d M O ∧ O.sum + d * (M : Int) = ((2 ^ log.toNat : Nat) : Int) := by
    by_cases hc : ((2 ^ log.toNat : Nat) : Int) < O.sum
    · refine ⟨-1, (O.sum - ((2 ^ log.toNat : Nat) : Int)).toNat, .inl ⟨rfl, hc⟩, fun _ => by omega, ?_, by omega⟩
      unfold shareO
      rw [← hO, if_pos hc]
    · refine ⟨1, (((2 ^ log.toNat : Nat) : Int) - O.sum).toNat, .inr ⟨rfl, by omega⟩, fun hh => by omega, ?_, by omega⟩
      unfold shareO
      rw [← hO, if_neg hc]
  obtain ⟨d, M, hd, hM, he, hsum⟩ := hdm
  obtain ⟨g1, g2, g3, g4⟩ := adj_whole hd hO0 (by omega) (by omega) M hM
  rw [he]
  have hlen : (adjN d M O).length = tlen l l.length := by omega
  have hpos : ∀ i, i < tlen l l.length → (0 < (adjN d M O).getD i 0 ↔ 0 < l.getD i 0) := fun i hi => by
    rw [g4 i (by omega), hO, out0_get hi, sh0_pos]
  have ht := tlen_le l l.length
  have hc : ((2 ^ log.toNat : Nat) : Int) = 2 ^ log.toNat := by simp
  refine ⟨⟨h5, h9, by omega, by omega, ?_, g3, by rw [g2, hsum, hc]⟩, hlen, hpos⟩
  rw [hlen]
  have h1 := (hpos (tlen l l.length - 1) (by omega)).2 (tlen_pos l l.length hL0)
  omega
end Go.Proofs.Ytjdpijjoblfoaaa
