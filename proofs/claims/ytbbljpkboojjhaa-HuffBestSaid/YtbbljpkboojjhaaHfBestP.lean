/- No lengths are better than those that are told. Plain. -/
import Derived.Test.YtbbljpkboojjhaaHfOrdP
namespace Go.Proofs.Ytbbljpkboojjhaa

def kMul (cs X : List Int) : Nat → Int := sumF (fun i => cs.getD i 0 * X.getD i 0)
theorem sumF_le {f g : Nat → Int} : ∀ k, (∀ i, i < k → f i ≤ g i) → sumF f k ≤ sumF g k
  | 0, _ => Int.le_refl _
  | k + 1, h => by
    simp only [sumF]
    have := sumF_le k (fun i hi => h i (by omega))
    have := h k (by omega)
    omega
theorem sumF_mono {f : Nat → Int} {m k : Nat} (h : m ≤ k) (hf : ∀ i, m ≤ i → i < k → 0 ≤ f i) : sumF f m ≤ sumF f k := by
  obtain ⟨c, rfl⟩ := Nat.exists_eq_add_of_le h
  induction c with
  | zero => exact Int.le_refl _
  | succ c ih =>
    have h1 := ih (by omega) (fun i h1 h2 => hf i h1 (by omega))
    have h2 := hf (m + c) (by omega) (by omega)
    show sumF f m ≤ sumF f (m + c) + f (m + c)
    omega
theorem sumF_zero {f : Nat → Int} {m k : Nat} (h : m ≤ k) (hf : ∀ i, m ≤ i → i < k → f i = 0) : sumF f k = sumF f m := by
  obtain ⟨c, rfl⟩ := Nat.exists_eq_add_of_le h
  induction c with
  | zero => rfl
  | succ c ih =>
    have h1 := ih (by omega) (fun i h1 h2 => hf i h1 (by omega))
    have h2 := hf (m + c) (by omega) (by omega)
    show sumF f (m + c) + f (m + c) = sumF f m
    omega

theorem CsOk.best {ds o : List Int} (h : CsOk ds) (ho : HMay o) (hl : 0 < ds.length ∧ 0 < ds.getD (ds.length - 1) 0) (hc : ∀ i, i < ds.length → 0 < ds.getD i 0 → i < o.length ∧ 0 < o.getD i 0) :
    kMul ds (treeS ds) ds.length ≤ kMul ds o ds.length := by
  have hb : ∀ i, i < ds.length → 0 ≤ ds.getD i 0 := fun i hi => (h.bound i hi).1
  by_cases h1 : (leafS ds ds.length).length = 1
  · refine sumF_le _ (fun i hi => ?_)
    rw [h.get hi]
    by_cases hp : 0 < ds.getD i 0
    · rw [if_pos hp, if_pos h1]
      exact Int.mul_le_mul_of_nonneg_left (by have := (hc i hi hp).2; omega) (Int.le_of_lt hp)
    · rw [if_neg hp]
      have := hb i hi
      have e : ds.getD i 0 = 0 := by omega
      rw [e, Int.zero_mul, Int.zero_mul]
      exact Int.le_refl _
  · have hM := hc (ds.length - 1) (by omega) hl.2
    have key := h.run.best h.pool 11 (fun n => (o.getD (((leafS ds ds.length).getD n.toNat tk0).ps.getD 0 0).toNat 0).toNat)
    have hbyte : ∀ t ∈ leafS ds ds.length, ∃ p, p < ds.length ∧ 0 < ds.getD p 0 ∧ t = ⟨ds.getD p 0, rk ds p, [(p : Int)]⟩ ∧ (o.getD (((leafS ds ds.length).getD t.nr.toNat tk0).ps.getD 0 0).toNat 0).toNat = (o.getD p 0).toNat := fun t ht => by
      obtain ⟨p, hp, hd, e⟩ := leaf_of _ ht
      refine ⟨p, hp, hd, e, ?_⟩
      rw [(leaf_self _ ht).1, e]
      simp
    have hk := key (fun t ht => by
      obtain ⟨p, hp, hd, _, e⟩ := hbyte t ht
      show (o.getD (((leafS ds ds.length).getD t.nr.toNat tk0).ps.getD 0 0).toNat 0).toNat ≤ 11
      rw [e]
      have := (ho.2.1 p (hc p hp hd).1).2
      omega) (by
      have hs : ((kraftE 11 (fun n => (o.getD (((leafS ds ds.length).getD n.toNat tk0).ps.getD 0 0).toNat 0).toNat) (leafS ds ds.length) : Nat) : Int) ≤ 2048 := by
        unfold kraftE
        rw [← sumT_cast, sumT_congr (g := fun t => 2 ^ (11 - (o.getD (t.ps.getD 0 0).toNat 0).toNat)) (fun t ht => by
          obtain ⟨p, hp, hd, e1, e2⟩ := hbyte t ht
          show ((2 ^ (11 - (o.getD (((leafS ds ds.length).getD t.nr.toNat tk0).ps.getD 0 0).toNat 0).toNat) : Nat) : Int) = _
          rw [e2, e1]
          simp), leaf_sum]
        have h2 : sumF (fun p => if 0 < ds.getD p 0 then (2 : Int) ^ (11 - (o.getD p 0).toNat) else 0) ds.length ≤ kSum o o.length := by
          rw [kSum_sumF]
          refine Int.le_trans (sumF_le _ (fun i hi => ?_)) (sumF_mono (m := ds.length) (by omega) (fun i _ _ => ?_))
          · by_cases hd : 0 < ds.getD i 0
            · rw [if_pos hd, if_pos (hc i hi hd).2]; exact Int.le_refl _
            · rw [if_neg hd]
              split
              · exact Int.le_of_lt (Int.pow_pos (by omega))
              · exact Int.le_refl _
          · split
            · exact Int.le_of_lt (Int.pow_pos (by omega))
            · exact Int.le_refl _
        have h3 := kSum_one o o.length
        have h4 : kSum o o.length ≤ 2048 := by
          rcases ho.2.2 with h5 | h5
          · omega
          · omega
        have h6 : sumF (fun p => if 0 < ds.getD p 0 then (fun t : Tk => (2 : Int) ^ (11 - (o.getD (t.ps.getD 0 0).toNat 0).toNat)) ⟨ds.getD p 0, rk ds p, [(p : Int)]⟩ else 0) ds.length = sumF (fun p => if 0 < ds.getD p 0 then (2 : Int) ^ (11 - (o.getD p 0).toNat) else 0) ds.length := sumF_congr _ (fun p _ => by
          by_cases hd : 0 < ds.getD p 0
          · rw [if_pos hd, if_pos hd]; simp
          · rw [if_neg hd, if_neg hd])
        rw [h6]
        omega
      have : (2 : Nat) ^ 11 = 2048 := by decide
      omega)
    unfold cost at hk
    rw [sumT_congr (f := fun t => t.wt * (((o.getD (((leafS ds ds.length).getD t.nr.toNat tk0).ps.getD 0 0).toNat 0).toNat : Nat) : Int)) (g := fun t => t.wt * (((o.getD (t.ps.getD 0 0).toNat 0).toNat : Nat) : Int)) (fun t ht => by
      obtain ⟨p, hp, hd, e1, e2⟩ := hbyte t ht
      rw [e2, e1]
      simp), leaf_sum, leaf_sum] at hk
    refine Int.le_trans (Int.le_of_eq (sumF_congr _ (fun i hi => ?_))) (Int.le_trans hk (Int.le_of_eq (sumF_congr _ (fun i hi => ?_))))
    · by_cases hd : 0 < ds.getD i 0
      · rw [if_pos hd, h.get hi, if_pos hd, if_neg h1]
      · rw [if_neg hd]
        have := hb i hi
        rw [show ds.getD i 0 = 0 by omega, Int.zero_mul]
    · by_cases hd : 0 < ds.getD i 0
      · rw [if_pos hd]
        have := (hc i hi hd).2
        simp only [List.getD_cons_zero, Int.toNat_natCast]
        rw [show (((o.getD i 0).toNat : Nat) : Int) = o.getD i 0 by omega]
      · rw [if_neg hd]
        have := hb i hi
        rw [show ds.getD i 0 = 0 by omega, Int.zero_mul]

theorem kMul_bound {cs X : List Int} {N : Nat} (h : ∀ i, i < N → 0 ≤ cs.getD i 0) (hX : ∀ i, 0 ≤ X.getD i 0 ∧ X.getD i 0 ≤ 11) : ∀ k, k ≤ N → 0 ≤ kMul cs X k ∧ kMul cs X k ≤ 11 * kTot cs k
  | 0, _ => by simp [kMul, kTot, sumF]
  | k + 1, hk => by
    have h1 := kMul_bound h hX k (by omega)
    have e1 : kMul cs X (k + 1) = kMul cs X k + cs.getD k 0 * X.getD k 0 := rfl
    have e2 : kTot cs (k + 1) = kTot cs k + cs.getD k 0 := rfl
    have h2 := Int.mul_nonneg (h k (by omega)) (hX k).1
    have h3 := Int.mul_le_mul_of_nonneg_left (hX k).2 (h k (by omega))
    omega
theorem inK_all {X : List Int} (h : inK X) (i : Nat) : 0 ≤ X.getD i 0 ∧ X.getD i 0 ≤ 11 := by
  by_cases hi : i < X.length
  · exact h i hi
  · rw [List.getD_eq_getElem?_getD, List.getElem?_eq_none (by omega)]
    decide

theorem lengths_best {cs o : List Int} (h : csMay cs) (ht : kTot cs cs.length ≤ 300) (ho : HMay o) (hc : ∀ i, i < cs.length → 0 < cs.getD i 0 → i < o.length ∧ 0 < o.getD i 0) :
    kMul cs (lengthsS cs) cs.length ≤ kMul cs o cs.length := by
  have hok := lengths_ok h
  have hle := lastK_le cs cs.length
  have hf := Fit.start h
  obtain ⟨M, hM⟩ : ∃ M, M = (lengthsS cs).length := ⟨_, rfl⟩
  have hMl : M = lastK cs cs.length := by rw [hM]; exact hok.len
  obtain ⟨e1, e2⟩ := hok.tree ht
  rw [← hM] at e1 e2
  rw [← hMl] at hf
  have htl : (cs.take M).length = M := by rw [List.length_take]; omega
  have hb := e2.best ho hf.last (fun i hi hd => by
    rw [htl] at hi
    rw [take_getD hi] at hd
    exact hc i (by omega) hd)
  rw [htl] at hb
  have hz : ∀ i, M ≤ i → i < cs.length → cs.getD i 0 = 0 := fun i h1 h2 => hok.zero i (by omega) h2
  have key : ∀ Y : List Int, kMul cs Y cs.length = kMul (cs.take M) Y M := fun Y => by
    unfold kMul
    rw [sumF_zero (m := M) (by omega) (fun i h1 h2 => by rw [hz i h1 h2, Int.zero_mul])]
    exact sumF_congr _ (fun i hi => by rw [take_getD hi])
  rw [key, key, e1]
  exact hb
end Go.Proofs.Ytbbljpkboojjhaa
