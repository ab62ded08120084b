/- Lengths that are told may be; who stands more often has no longer code. Plain. -/
import Derived.Test.YtbbljpkboojjhaaHfMayS
namespace Go.Proofs.Ytbbljpkboojjhaa

theorem sumT_cast (f : Tk → Nat) (l : List Tk) : sumT (fun t => (f t : Int)) l = ((sumK f l : Nat) : Int) := by
  induction l with
  | nil => rfl
  | cons x l ih => rw [sumT_cons, sumK_cons, ih]; omega
theorem kSum_sumF (X : List Int) : ∀ k, kSum X k = sumF (fun p => if 0 < X.getD p 0 then 2 ^ (11 - (X.getD p 0).toNat) else 0) k
  | 0 => rfl
  | k + 1 => by simp only [kSum, sumF]; rw [kSum_sumF X k]
theorem kCnt_sumF (X : List Int) : ∀ k, kCnt X k = sumF (fun p => if 0 < X.getD p 0 then 1 else 0) k
  | 0 => rfl
  | k + 1 => by simp only [kCnt, sumF]; rw [kCnt_sumF X k]
theorem sumT_one (l : List Tk) : sumT (fun _ => 1) l = (l.length : Int) := by
  induction l with
  | nil => rfl
  | cons x l ih => rw [sumT_cons, ih, List.length_cons]; omega

/-- a tree's lengths may be -/
theorem CsOk.may {ds : List Int} (h : CsOk ds) (hl : 0 < ds.length ∧ 0 < ds.getD (ds.length - 1) 0) (h11 : maxS (treeS ds) ≤ 11) : HMay (treeS ds) := by
  have hlen := treeS_length ds
  have hle : ∀ i, i < ds.length → 0 ≤ (treeS ds).getD i 0 ∧ (treeS ds).getD i 0 ≤ 11 := fun i hi => ⟨h.nonneg hi, (gre_bound (by rw [hlen]; exact hl.1)).1 h11 i (by rw [hlen]; exact hi)⟩
  have hlast := (h.pos (p := ds.length - 1) (by omega)).2 hl.2
  have hL := leaf_mem hl.2 ds.length (by omega)
  have hLp := List.length_pos_of_mem hL
  refine ⟨⟨by rw [hlen]; exact hl.1, by rw [hlen]; exact h.len, by rw [hlen]; omega⟩, fun i hi => hle i (by rw [← hlen]; exact hi), ?_⟩
  rw [hlen]
  have hcnt : kCnt (treeS ds) ds.length = ((leafS ds ds.length).length : Int) := by
    rw [kCnt_sumF, ← sumT_one, leaf_sum]
    refine sumF_congr _ (fun i hi => ?_)
    by_cases hc : 0 < ds.getD i 0
    · rw [if_pos hc, if_pos ((h.pos hi).2 hc)]
    · rw [if_neg hc, if_neg (fun h2 => hc ((h.pos hi).1 h2))]
  by_cases h1 : (leafS ds ds.length).length = 1
  · refine .inr ⟨by rw [hcnt, h1]; rfl, ?_⟩
    rw [h.get (by omega), if_pos hl.2, if_pos h1]
  · refine .inl ?_
    have hk := h.run.kraft (fun e => by rw [e] at hLp; simp at hLp) 11 (fun t ht => by
      obtain ⟨p, hp, hc, e⟩ := leaf_of _ ht
      have := (hle p hp).2
      rw [h.get hp, if_pos hc, if_neg h1] at this
      rw [e]
      show dS ds (rk ds p) ≤ 11
      omega)
    have hk2 : sumT (fun t => ((2 ^ (11 - dS ds t.nr) : Nat) : Int)) (leafS ds ds.length) = 2048 := by rw [sumT_cast, hk]; rfl
    rw [kSum_sumF, ← hk2, leaf_sum]
    refine sumF_congr _ (fun i hi => ?_)
    by_cases hc : 0 < ds.getD i 0
    · rw [if_pos hc, if_pos ((h.pos hi).2 hc), h.get hi, if_pos hc, if_neg h1, Int.toNat_natCast]
      simp
    · rw [if_neg hc, if_neg (fun h2 => hc ((h.pos hi).1 h2))]

theorem take_getD {cs : List Int} {M i : Nat} (h : i < M) : (cs.take M).getD i 0 = cs.getD i 0 := by simp [List.getD_eq_getElem?_getD, h]
/-- the counts' sum -/
def kTot (cs : List Int) : Nat → Int := sumF (fun i => cs.getD i 0)
theorem kTot_nonneg {cs : List Int} {N : Nat} (h : ∀ i, i < N → 0 ≤ cs.getD i 0) : ∀ k, k ≤ N → 0 ≤ kTot cs k ∧ ∀ m, m ≤ k → kTot cs m ≤ kTot cs k
  | 0, _ => ⟨by simp [kTot, sumF], fun m hm => by
      obtain rfl : m = 0 := by omega
      exact Int.le_refl _⟩
  | k + 1, hk => by
    obtain ⟨h1, h2⟩ := kTot_nonneg h k (by omega)
    have h3 := h k (by omega)
    have e : kTot cs (k + 1) = kTot cs k + cs.getD k 0 := rfl
    refine ⟨by omega, fun m hm => ?_⟩
    by_cases e2 : m = k + 1
    · subst e2; exact Int.le_refl _
    · have := h2 m (by omega); omega

structure LenOk (cs X : List Int) : Prop where
  len : X.length = lastK cs cs.length
  may : HMay X
  pos : ∀ i, i < X.length → (0 < X.getD i 0 ↔ 0 < cs.getD i 0)
  zero : ∀ i, X.length ≤ i → i < cs.length → cs.getD i 0 = 0
  order : kTot cs cs.length ≤ 300 → ∀ a b, a < X.length → b < X.length → cs.getD b 0 < cs.getD a 0 → 0 < cs.getD b 0 → X.getD a 0 ≤ X.getD b 0
  tree : kTot cs cs.length ≤ 300 → X = treeS (cs.take X.length) ∧ CsOk (cs.take X.length)

theorem lengths_ok {cs : List Int} (h : csMay cs) : LenOk cs (lengthsS cs) := by
  have hf := Fit.start h
  obtain ⟨ds, g1, g2, g3, g4, g5, g6⟩ := hf.len 32 _
  have hle := lastK_le cs cs.length
  obtain ⟨M, hM⟩ : ∃ M, M = lastK cs cs.length := ⟨_, rfl⟩
  rw [← hM] at hf g2 g3 g4 g6 hle
  have hX : lengthsS cs = treeS ds := by rw [← g2, hM]; rfl
  have htl : (cs.take M).length = M := by rw [List.length_take]; omega
  rw [htl] at g3 g4
  have hlast := hf.last
  rw [htl] at hlast
  have hXl : (lengthsS cs).length = M := by rw [hX, treeS_length, g3]
  have hnn : ∀ i, i < cs.length → 0 ≤ cs.getD i 0 := fun i hi => (h.2.1 i hi).1
  have hz : ∀ i, M ≤ i → i < cs.length → cs.getD i 0 = 0 := fun i h1 h2 => lastK_zero cs cs.length i (by omega) h2
  have hl2 : 0 < ds.length ∧ 0 < ds.getD (ds.length - 1) 0 := by
    rw [g3]
    exact ⟨hlast.1, (g4 _ (by omega)).2 hlast.2⟩
  have htree : kTot cs cs.length ≤ 300 → ds = cs.take M := fun ht => by
    refine g6 ?_
    rw [gre_bound (by rw [treeS_length, htl]; exact hlast.1)]
    intro i hi
    rw [treeS_length] at hi
    refine hf.ok.light ?_ hi
    rw [htl]
    have h1 := (kTot_nonneg hnn cs.length (Nat.le_refl _)).2 M hle
    have h2 : sumF (fun p => if 0 < (cs.take M).getD p 0 then (cs.take M).getD p 0 else 0) M = kTot cs M := sumF_congr _ (fun p hp => by
      rw [take_getD hp]
      have := hnn p (by omega)
      split
      · rfl
      · omega)
    omega
  refine ⟨by rw [hXl, hM], by rw [hX]; exact g1.may hl2 g5, fun i hi => ?_, fun i h1 h2 => hz i (by omega) h2, fun ht a b ha hb hab h0 => ?_, fun ht => ?_⟩
  · rw [hXl] at hi
    rw [hX, g1.pos (by omega), g4 i hi, take_getD hi]
  · rw [hXl] at ha hb
    have e := htree ht
    rw [hX]
    refine g1.order (by omega) (by omega) ?_ ?_
    · rw [e, take_getD hb]; exact h0
    · rw [e, take_getD ha, take_getD hb]; exact hab
  · rw [hXl, hX, ← htree ht]
    exact ⟨rfl, g1⟩
end Go.Proofs.Ytbbljpkboojjhaa
