/- No code begins another one. Plain. -/
import Derived.Test.YtbbljpkboojjhaaHfEncS
namespace Go.Proofs.Ytbbljpkboojjhaa

/-- how many of the first i bytes have codes of length k -/
def cnt (zs : List Int) (k : Int) : Nat → Int
  | 0 => 0
  | i + 1 => cnt zs k i + (if zs.getD i 0 = k then 1 else 0)
theorem cnt_mono (zs : List Int) (k : Int) : ∀ i c, 0 ≤ cnt zs k i ∧ cnt zs k i ≤ cnt zs k (i + c)
  | i, 0 => by
    refine ⟨?_, Int.le_refl _⟩
    induction i with
    | zero => exact Int.le_refl _
    | succ i ih => simp only [cnt]; split <;> omega
  | i, c + 1 => by
    have h := cnt_mono zs k i c
    refine ⟨h.1, ?_⟩
    rw [← Nat.add_assoc]
    simp only [cnt]
    split <;> omega
theorem cnt_step {zs : List Int} {k : Int} {a i : Nat} (h : a < i) (hk : zs.getD a 0 = k) : cnt zs k a + 1 ≤ cnt zs k i := by
  obtain ⟨c, rfl⟩ := Nat.exists_eq_add_of_le (show a + 1 ≤ i from h)
  have := (cnt_mono zs k (a + 1) c).2
  have e : cnt zs k (a + 1) = cnt zs k a + 1 := by simp only [cnt]; rw [if_pos hk]
  omega
theorem cdIn_two (zs : List Int) (k : Int) (s : List Int × Int) : ∀ i, (cdIn zs k i s).2 = s.2 + cnt zs k i
  | 0 => by simp [cdIn, cnt]
  | i + 1 => by
    have := cdIn_two zs k s i
    simp only [cdIn, cnt]
    split
    · simp only; omega
    · omega
theorem cdIn_get (zs : List Int) (k : Int) (s : List Int × Int) (b : Nat) (hb : b < s.1.length) : ∀ i, (cdIn zs k i s).1.getD b 0 = if b < i ∧ zs.getD b 0 = k then s.2 + cnt zs k b else s.1.getD b 0
  | 0 => by simp [cdIn]
  | i + 1 => by
    have ih := cdIn_get zs k s b hb i
    have hl := cdIn_len zs k s i
    simp only [cdIn]
    by_cases hz : zs.getD i 0 = k
    · rw [if_pos hz]
      by_cases e : b = i
      · subst e
        rw [if_pos ⟨by omega, hz⟩, ← cdIn_two]
        simp only
        rw [List.getD_eq_getElem?_getD, List.getElem?_set_self (by omega)]
        rfl
      · simp only
        rw [List.getD_eq_getElem?_getD, List.getElem?_set_ne (fun h => e h.symm), ← List.getD_eq_getElem?_getD, ih]
        by_cases h1 : b < i ∧ zs.getD b 0 = k
        · rw [if_pos h1, if_pos ⟨by omega, h1.2⟩]
        · rw [if_neg h1, if_neg (fun h => h1 ⟨by omega, h.2⟩)]
    · rw [if_neg hz, ih]
      by_cases h1 : b < i ∧ zs.getD b 0 = k
      · rw [if_pos h1, if_pos ⟨by omega, h1.2⟩]
      · rw [if_neg h1, if_neg (fun h => by
          by_cases e : b = i
          · subst e; exact hz h.2
          · exact h1 ⟨by omega, h.2⟩)]

/-- the code behind all codes of length K -/
def CC (zs : List Int) (i : Nat) : Nat → Int
  | 0 => 0
  | K + 1 => CC zs i K * 2 + cnt zs ((K : Int) + 1) i
theorem cdOut_two (zs : List Int) : ∀ K, (cdOut zs K).2 = CC zs zs.length K
  | 0 => rfl
  | K + 1 => by
    simp only [cdOut, CC]
    rw [cdIn_two, ← cdOut_two zs K]
theorem cdOut_get (zs : List Int) (b : Nat) (hb : b < zs.length) (hb2 : b < 256) : ∀ K, (cdOut zs K).1.getD b 0 = if 1 ≤ zs.getD b 0 ∧ zs.getD b 0 ≤ (K : Int) then CC zs zs.length ((zs.getD b 0).toNat - 1) * 2 + cnt zs (zs.getD b 0) b else 0
  | 0 => by
    rw [if_neg (by omega)]
    show (List.replicate 256 (0 : Int)).getD b 0 = 0
    rw [List.getD_eq_getElem?_getD, List.getElem?_eq_getElem (by rw [List.length_replicate]; exact hb2), List.getElem_replicate]
    rfl
  | K + 1 => by
    have ih := cdOut_get zs b hb hb2 K
    simp only [cdOut]
    rw [cdIn_get _ _ _ _ (by simp only; rw [cdOut_len]; exact hb2)]
    simp only
    by_cases h : zs.getD b 0 = (K : Int) + 1
    · rw [if_pos ⟨hb, h⟩, if_pos ⟨by omega, by omega⟩, cdOut_two, h, show ((K : Int) + 1).toNat - 1 = K by omega]
    · rw [if_neg (fun h2 => h h2.2), ih]
      by_cases h2 : 1 ≤ zs.getD b 0 ∧ zs.getD b 0 ≤ (K : Int)
      · rw [if_pos h2, if_pos ⟨h2.1, by omega⟩]
      · rw [if_neg h2, if_neg (by omega)]
theorem CC_nonneg (zs : List Int) (i : Nat) : ∀ K, 0 ≤ CC zs i K
  | 0 => Int.le_refl _
  | K + 1 => by
    have := CC_nonneg zs i K
    have := (cnt_mono zs ((K : Int) + 1) i 0).1
    simp only [CC]
    omega
theorem CC_up (zs : List Int) (i : Nat) (m : Nat) : ∀ c, CC zs i m * 2 ^ c ≤ CC zs i (m + c)
  | 0 => by simp
  | c + 1 => by
    have h := CC_up zs i m c
    have h2 := (cnt_mono zs (((m + c : Nat) : Int) + 1) i 0).1
    have e : CC zs i (m + (c + 1)) = CC zs i (m + c) * 2 + cnt zs (((m + c : Nat) : Int) + 1) i := rfl
    rw [e, Int.pow_succ, ← Int.mul_assoc]
    omega
theorem CC_step (zs : List Int) (i : Nat) : ∀ K, CC zs (i + 1) K = CC zs i K + (if 1 ≤ zs.getD i 0 ∧ zs.getD i 0 ≤ (K : Int) then 2 ^ (K - (zs.getD i 0).toNat) else 0)
  | 0 => by
    rw [if_neg (by omega)]
    simp [CC]
  | K + 1 => by
    have ih := CC_step zs i K
    simp only [CC, cnt]
    rw [ih]
    by_cases h : zs.getD i 0 = (K : Int) + 1
    · rw [if_pos h, if_neg (by omega), if_pos ⟨by omega, by omega⟩, h, show K + 1 - ((K : Int) + 1).toNat = 0 by omega]
      simp
      omega
    · rw [if_neg h]
      by_cases h2 : 1 ≤ zs.getD i 0 ∧ zs.getD i 0 ≤ (K : Int)
      · rw [if_pos h2, if_pos ⟨h2.1, by omega⟩, show K + 1 - (zs.getD i 0).toNat = (K - (zs.getD i 0).toNat) + 1 by omega, Int.pow_succ]
        omega
      · rw [if_neg h2, if_neg (by omega)]
        omega
theorem CC_all {zs : List Int} (h : inK zs) : ∀ i, i ≤ zs.length → CC zs i 11 = kSum zs i
  | 0, _ => by
    have : ∀ K, CC zs 0 K = 0 := fun K => by
      induction K with
      | zero => rfl
      | succ K ih => simp only [CC, cnt]; rw [ih]; rfl
    rw [this]; rfl
  | i + 1, hi => by
    have hz := h i (by omega)
    rw [CC_step, CC_all h i (by omega)]
    simp only [kSum]
    by_cases h0 : 0 < zs.getD i 0
    · rw [if_pos h0, if_pos ⟨by omega, by have := hz.2; omega⟩]
    · rw [if_neg h0, if_neg (by omega)]
theorem kSum_may {zs : List Int} (h : HMay zs) : kSum zs zs.length ≤ 2048 := by
  have := kSum_one zs zs.length
  rcases h.2.2 with h | h
  · omega
  · omega
theorem CC_le {zs : List Int} (h : HMay zs) {n : Nat} (hn : n ≤ 11) : CC zs zs.length n ≤ 2 ^ n := by
  have h1 := CC_up zs zs.length n (11 - n)
  rw [show n + (11 - n) = 11 by omega, CC_all h.2.1 _ (Nat.le_refl _)] at h1
  have h2 := kSum_may h
  have h3 : (2 : Int) ^ n * 2 ^ (11 - n) = 2048 := by
    rw [← Int.pow_add, show n + (11 - n) = 11 by omega]; decide
  have h4 : (0 : Int) < 2 ^ (11 - n) := Int.pow_pos (by omega)
  exact Int.le_of_mul_le_mul_right (by omega) h4
/-- a code: what stands ahead, and what it is less than -/
theorem code_get {zs : List Int} (h : HMay zs) {b : Nat} (hb : b < zs.length) (h0 : 0 < zs.getD b 0) :
    (codesS zs).getD b 0 = CC zs zs.length ((zs.getD b 0).toNat - 1) * 2 + cnt zs (zs.getD b 0) b ∧ (codesS zs).getD b 0 + 1 ≤ CC zs zs.length (zs.getD b 0).toNat := by
  have hz := h.2.1 b hb
  have e := cdOut_get zs b hb (by have := h.1.2.1; omega) 11
  rw [if_pos ⟨by omega, by have := hz.2; omega⟩] at e
  refine ⟨e, ?_⟩
  have e2 : (codesS zs).getD b 0 = CC zs zs.length ((zs.getD b 0).toNat - 1) * 2 + cnt zs (zs.getD b 0) b := e
  obtain ⟨n, hn⟩ : ∃ n : Nat, zs.getD b 0 = ((n + 1 : Nat) : Int) := ⟨(zs.getD b 0).toNat - 1, by omega⟩
  have hs := cnt_step (zs := zs) (k := zs.getD b 0) hb rfl
  rw [e2]
  rw [hn] at hs ⊢
  rw [Int.toNat_natCast, Nat.add_sub_cancel]
  simp only [CC]
  have : ((n + 1 : Nat) : Int) = (n : Int) + 1 := by omega
  rw [this] at hs ⊢
  omega
theorem code_lt {zs : List Int} (h : HMay zs) {b : Nat} (hb : b < zs.length) (h0 : 0 < zs.getD b 0) : 0 ≤ (codesS zs).getD b 0 ∧ (codesS zs).getD b 0 < 2 ^ (zs.getD b 0).toNat := by
  obtain ⟨e, h1⟩ := code_get h hb h0
  have h2 := CC_le h (n := (zs.getD b 0).toNat) (by have := (h.2.1 b hb).2; omega)
  have h3 := CC_nonneg zs zs.length ((zs.getD b 0).toNat - 1)
  have h4 := (cnt_mono zs (zs.getD b 0) b 0).1
  omega
/-- codes of unlike bytes lie apart -/
theorem code_apart {zs : List Int} (h : HMay zs) {a b : Nat} (ha : a < zs.length) (hb : b < zs.length) (ha0 : 0 < zs.getD a 0) (hb0 : 0 < zs.getD b 0) (hab : zs.getD a 0 < zs.getD b 0 ∨ (zs.getD a 0 = zs.getD b 0 ∧ a < b)) :
    ((codesS zs).getD a 0 + 1) * 2 ^ ((zs.getD b 0).toNat - (zs.getD a 0).toNat) ≤ (codesS zs).getD b 0 := by
  obtain ⟨e1, l1⟩ := code_get h ha ha0
  obtain ⟨e2, _⟩ := code_get h hb hb0
  rcases hab with hab | ⟨hab, hlt⟩
  · have hp : (0 : Int) < 2 ^ ((zs.getD b 0).toNat - (zs.getD a 0).toNat) := Int.pow_pos (by omega)
    have h1 := Int.mul_le_mul_of_nonneg_right l1 (Int.le_of_lt hp)
    have h2 := CC_up zs zs.length (zs.getD a 0).toNat ((zs.getD b 0).toNat - 1 - (zs.getD a 0).toNat)
    rw [show (zs.getD a 0).toNat + ((zs.getD b 0).toNat - 1 - (zs.getD a 0).toNat) = (zs.getD b 0).toNat - 1 by omega] at h2
    have h3 := (cnt_mono zs (zs.getD b 0) b 0).1
    have e3 : (2 : Int) ^ ((zs.getD b 0).toNat - (zs.getD a 0).toNat) = 2 ^ ((zs.getD b 0).toNat - 1 - (zs.getD a 0).toNat) * 2 := by
      rw [← Int.pow_succ]
      congr 1
      omega
    rw [e3, ← Int.mul_assoc, ← Int.mul_assoc] at h1
    rw [e3, ← Int.mul_assoc]
    omega
  · have h1 := cnt_step (zs := zs) (k := zs.getD a 0) hlt rfl
    rw [e2, ← hab, Nat.sub_self, Int.pow_zero, Int.mul_one]
    omega

theorem bits_eq : ∀ (n : Nat) (x y : Int), 0 ≤ x → x < 2 ^ n → 0 ≤ y → y < 2 ^ n → (∀ j, j < n → x / 2 ^ j % 2 = y / 2 ^ j % 2) → x = y
  | 0, x, y, h1, h2, h3, h4, _ => by simp at h2 h4; omega
  | n + 1, x, y, h1, h2, h3, h4, h => by
    rw [Int.pow_succ] at h2 h4
    have h0 := h 0 (by omega)
    simp at h0
    have ih := bits_eq n (x / 2) (y / 2) (by omega) (by omega) (by omega) (by omega) (fun j hj => by
      have := h (j + 1) (by omega)
      rw [show (2 : Int) ^ (j + 1) = 2 * 2 ^ j by rw [Int.pow_succ, Int.mul_comm]] at this
      rw [Int.ediv_ediv_of_nonneg (by omega), Int.ediv_ediv_of_nonneg (by omega)]
      exact this)
    omega
theorem cb_get (n : Nat) (c : Int) : ∀ m j, j < m → (cb n c m).getD j 0 = c / 2 ^ (n - 1 - j) % 2
  | 0, _, h => by omega
  | m + 1, j, h => by
    have hl := cb_len n c m
    simp only [cb]
    by_cases e : j = m
    · subst e
      rw [List.getD_eq_getElem?_getD, List.getElem?_append_right (by omega), hl]
      simp
    · rw [List.getD_eq_getElem?_getD, List.getElem?_append_left (by omega), ← List.getD_eq_getElem?_getD]
      exact cb_get n c m j (by omega)
/-- of two codes none is the other's beginning -/
theorem codes_differ {zs : List Int} (h : HMay zs) {a b : Nat} (ha : a < zs.length) (hb : b < zs.length) (ha0 : 0 < zs.getD a 0) (hb0 : 0 < zs.getD b 0) (hab : a ≠ b) (hle : (zs.getD a 0).toNat ≤ (zs.getD b 0).toNat) :
    ∃ i, i < (zs.getD a 0).toNat ∧ (codeB zs (a : Int)).getD i 0 ≠ (codeB zs (b : Int)).getD i 0 := by
  refine Classical.byContradiction fun hno => ?_
  have hall : ∀ i, i < (zs.getD a 0).toNat → (codeB zs (a : Int)).getD i 0 = (codeB zs (b : Int)).getD i 0 := fun i hi => Classical.byContradiction fun hne => hno ⟨i, hi, hne⟩
  unfold codeB at hall
  simp only [Int.toNat_natCast] at hall
  have la := code_lt h ha ha0
  have lb := code_lt h hb hb0
  obtain ⟨n, hn⟩ : ∃ n, n = (zs.getD a 0).toNat := ⟨_, rfl⟩
  obtain ⟨d, hd⟩ : ∃ d, (zs.getD b 0).toNat = n + d := ⟨(zs.getD b 0).toNat - n, by omega⟩
  have hpd : (0 : Int) < 2 ^ d := Int.pow_pos (by omega)
  have key : (codesS zs).getD a 0 = (codesS zs).getD b 0 / 2 ^ d := by
    refine bits_eq n _ _ la.1 (by rw [hn]; exact la.2) (Int.ediv_nonneg lb.1 (Int.le_of_lt hpd)) ?_ (fun j hj => ?_)
    · have := lb.2
      rw [hd, Int.pow_add] at this
      exact Int.ediv_lt_of_lt_mul hpd this
    · have h1 := hall (n - 1 - j) (by omega)
      rw [cb_get _ _ _ _ (by omega), cb_get _ _ _ _ (by omega), ← hn, hd, show n - 1 - (n - 1 - j) = j by omega, show n + d - 1 - (n - 1 - j) = d + j by omega, Int.pow_add] at h1
      rw [Int.ediv_ediv_of_nonneg (Int.le_of_lt hpd)]
      exact h1
  by_cases hlt : zs.getD a 0 < zs.getD b 0 ∨ (zs.getD a 0 = zs.getD b 0 ∧ a < b)
  · have h1 := code_apart h ha hb ha0 hb0 hlt
    rw [show (zs.getD b 0).toNat - (zs.getD a 0).toNat = d by omega] at h1
    have h2 := Int.le_ediv_of_mul_le hpd h1
    omega
  · have h3 : zs.getD b 0 = zs.getD a 0 ∧ b < a := by
      have := (h.2.1 a ha).1
      omega
    have h1 := code_apart h hb ha hb0 ha0 (.inr h3)
    have d0 : d = 0 := by rw [h3.1] at hd; omega
    subst d0
    rw [h3.1, Nat.sub_self, Int.pow_zero, Int.mul_one] at h1
    rw [Int.pow_zero, Int.ediv_one] at key
    omega
end Go.Proofs.Ytbbljpkboojjhaa
