/- What is written is read again. Plain. -/
import Derived.Test.YtbbljpkboojjhaaHfPre
import Derived.Test.YtbbljpkboojjhaaHfDecS
import Derived.Test.YtbbljpkboojjhaaHfOrdP
namespace Go.Proofs.Ytbbljpkboojjhaa

theorem look_of {zs cs : List Int} {d : Nat} (hd : d < zs.length) (h0 : 0 < zs.getD d 0) (hu : ∀ b, b < zs.length → 0 < zs.getD b 0 → zs.getD b 0 = zs.getD d 0 → cs.getD b 0 = cs.getD d 0 → b = d) : ∀ k, d < k → look zs cs k (zs.getD d 0) (cs.getD d 0) = some d
  | 0, h => by omega
  | k + 1, h => by
    simp only [look]
    split
    · rename_i h1
      rw [hu k h1.1 h1.2.1 h1.2.2.1 h1.2.2.2]
    · rename_i h1
      by_cases e : d = k
      · subst e; exact absurd ⟨hd, h0, rfl, rfl⟩ h1
      · exact look_of hd h0 hu k (by omega)
theorem code_unique {zs : List Int} (h : HMay zs) {b d : Nat} (hb : b < zs.length) (hd : d < zs.length) (hb0 : 0 < zs.getD b 0) (hz : zs.getD b 0 = zs.getD d 0) (hc : (codesS zs).getD b 0 = (codesS zs).getD d 0) : b = d := by
  refine Classical.byContradiction fun hne => ?_
  by_cases hlt : b < d
  · have := code_apart h hb hd hb0 (by omega) (.inr ⟨hz, hlt⟩)
    rw [hz, Nat.sub_self, Int.pow_zero, Int.mul_one] at this
    omega
  · have := code_apart h hd hb (by omega) hb0 (.inr ⟨hz.symm, by omega⟩)
    rw [hz, Nat.sub_self, Int.pow_zero, Int.mul_one] at this
    omega
theorem look_none {zs : List Int} (h : HMay zs) {d j : Nat} (hd : d < zs.length) (h0 : 0 < zs.getD d 0) (hj : j + 1 < (zs.getD d 0).toNat) : look zs (codesS zs) 256 ((j : Int) + 1) ((codesS zs).getD d 0 / 2 ^ ((zs.getD d 0).toNat - 1 - j)) = none := by
  cases hl : look zs (codesS zs) 256 ((j : Int) + 1) ((codesS zs).getD d 0 / 2 ^ ((zs.getD d 0).toNat - 1 - j)) with
  | none => rfl
  | some b =>
    exfalso
    obtain ⟨_, hb, hb0, hz, hc⟩ := look_lt _ _ _ _ _ _ hl
    have h1 := code_apart h hb hd hb0 h0 (.inl (by omega))
    rw [show (zs.getD d 0).toNat - (zs.getD b 0).toNat = (zs.getD d 0).toNat - 1 - j by omega] at h1
    have h2 := Int.le_ediv_of_mul_le (Int.pow_pos (by omega)) h1
    omega
theorem cb_drop (n : Nat) (c : Int) : ∀ m j, j ≤ m → (cb n c m).drop j = ((cb n c m).drop j) := fun _ _ _ => rfl
theorem cb_cons {n : Nat} {c : Int} {j : Nat} (h : j < n) : (cb n c n).drop j = c / 2 ^ (n - 1 - j) % 2 :: (cb n c n).drop (j + 1) := by
  have hl := cb_len n c n
  have hg := cb_get n c n j h
  rw [List.drop_eq_getElem_cons (by omega)]
  congr 1
  rw [List.getD_eq_getElem?_getD, List.getElem?_eq_getElem (by omega)] at hg
  exact hg
/-- one byte read -/
theorem symD_code {zs : List Int} (h : HMay zs) {d : Nat} (hd : d < zs.length) (h0 : 0 < zs.getD d 0) (rest : List Int) : ∀ m j, j + m = (zs.getD d 0).toNat → 0 < m →
    symD zs (codesS zs) (12 - j) ((codeB zs (d : Int)).drop j ++ rest) (j : Int) ((codesS zs).getD d 0 / 2 ^ m) = some (d, rest)
  | 0, _, _, h => by omega
  | m + 1, j, hm, _ => by
    have hz := h.2.1 d hd
    obtain ⟨n, hn⟩ : ∃ n, n = (zs.getD d 0).toNat := ⟨_, rfl⟩
    have hz2 := hz.2
    have hjn : j < n := by omega
    obtain ⟨c, hc⟩ : ∃ c, c = (codesS zs).getD d 0 := ⟨_, rfl⟩
    have hcb : codeB zs (d : Int) = cb n c n := by rw [codeB, Int.toNat_natCast, hn, hc]
    rw [hcb, cb_cons hjn, show 12 - j = (12 - (j + 1)) + 1 by omega, ← hc]
    have hstep : c / 2 ^ (m + 1) * 2 + c / 2 ^ (n - 1 - j) % 2 = c / 2 ^ m := by
      rw [show n - 1 - j = m by omega, Int.pow_succ, ← Int.ediv_ediv_of_nonneg (Int.le_of_lt (Int.pow_pos (by omega)))]
      omega
    simp only [List.cons_append, symD]
    rw [if_neg (by omega), hstep]
    cases m with
    | zero =>
      have hl := look_of (cs := codesS zs) hd h0 (fun b hb hb0 hz hc => code_unique h hb hd hb0 hz hc) 256 (by have := h.1.2.1; omega)
      rw [Int.pow_zero, Int.ediv_one, hc, show ((j : Int) + 1) = zs.getD d 0 by omega, hl]
      simp only
      rw [List.drop_of_length_le (by rw [cb_len]; omega)]
      rfl
    | succ m =>
      have hl := look_none h hd h0 (j := j) (by omega)
      rw [← hc, ← hn, show n - 1 - j = m + 1 by omega] at hl
      rw [hl]
      simp only
      have ih := symD_code h hd h0 rest (m + 1) (j + 1) (by omega) (by omega)
      rw [hcb, ← hc] at ih
      have : (((j + 1 : Nat) : Int)) = (j : Int) + 1 := by omega
      rw [this] at ih
      exact ih

/-- all bytes' codes -/
def esF (zs : List Int) : List Int → List Int
  | [] => []
  | d :: t => codeB zs d ++ esF zs t
theorem esF_append (zs : List Int) : ∀ a b, esF zs (a ++ b) = esF zs a ++ esF zs b
  | [], b => rfl
  | d :: a, b => by simp only [List.cons_append, esF]; rw [esF_append zs a b, List.append_assoc]
theorem es_take (zs ds : List Int) : ∀ k, k ≤ ds.length → es zs ds k = esF zs (ds.take k)
  | 0, _ => by simp [es, esF]
  | k + 1, h => by
    simp only [es]
    rw [es_take zs ds k (by omega), List.take_add_one, List.getElem?_eq_getElem (by omega), esF_append, List.getD_eq_getElem?_getD, List.getElem?_eq_getElem (by omega)]
    simp [esF]
theorem decN_all {zs : List Int} (h : HMay zs) (Z : List Int) : ∀ (ds out : List Int), (∀ d ∈ ds, 0 ≤ d ∧ okB zs d) → ∀ k, decN zs (codesS zs) (ds.length + k) (esF zs ds ++ Z) out = decN zs (codesS zs) k Z (out ++ ds)
  | [], out, _, k => by simp [esF]
  | d :: t, out, hd, k => by
    have h1 := hd d (by simp)
    obtain ⟨n, rfl⟩ : ∃ n : Nat, d = (n : Int) := ⟨d.toNat, by omega⟩
    have h2 := h1.2
    unfold okB at h2
    rw [Int.toNat_natCast] at h2
    have hn : n < zs.length := by omega
    have hp : 0 < zs.getD n 0 := by have := (h.2.1 n hn).1; omega
    have hc := code_lt h hn hp
    have hs := symD_code h hn hp (esF zs t ++ Z) (zs.getD n 0).toNat 0 (by omega) (by omega)
    rw [Int.ediv_eq_zero_of_lt hc.1 hc.2] at hs
    rw [List.length_cons, show t.length + 1 + k = (t.length + k) + 1 by omega]
    simp only [decN, esF, List.append_assoc]
    have hs : symD zs (codesS zs) 12 (codeB zs (n : Int) ++ (esF zs t ++ Z)) 0 0 = some (n, esF zs t ++ Z) := hs
    rw [hs]
    simp only
    rw [decN_all h Z t (out ++ [(n : Int)]) (fun d hd' => hd d (by simp [hd'])) k, List.append_assoc]
    rfl
theorem symD_short {zs cs : List Int} : ∀ f bs n c b bs', symD zs cs f bs n c = some (b, bs') → bs'.length + 1 ≤ bs.length
  | 0, _, _, _, _, _, h => by simp [symD] at h
  | f + 1, [], _, _, _, _, h => by simp [symD] at h
  | f + 1, x :: bs, n, c, b, bs', h => by
    simp only [symD] at h
    split at h
    · cases h
    · cases hl : look zs cs 256 (n + 1) (c * 2 + x) with
      | none =>
        rw [hl] at h
        have := symD_short f bs _ _ _ _ h
        rw [List.length_cons]
        omega
      | some r =>
        rw [hl] at h
        injection h with h
        injection h with _ h
        subst h
        simp
theorem decN_short {zs cs : List Int} : ∀ k bs out r, decN zs cs k bs out = some r → k ≤ bs.length
  | 0, _, _, _, _ => by omega
  | k + 1, bs, out, r, h => by
    simp only [decN] at h
    cases hs : symD zs cs 12 bs 0 0 with
    | none => rw [hs] at h; cases h
    | some p =>
      obtain ⟨b, bs'⟩ := p
      rw [hs] at h
      have h1 := decN_short k _ _ _ h
      have h2 := symD_short _ _ _ _ _ _ hs
      omega
theorem val_zeros : ∀ n, val (List.replicate n 0) = 0
  | 0 => rfl
  | n + 1 => by rw [List.replicate_succ]; simp [val, val_zeros n]

theorem round_all {zs ds : List Int} (h : okE zs ds) (hb : ∀ d ∈ ds, 0 ≤ d) (h0 : 0 < ds.length) (hl : ds.length ≤ 65536) :
    encS zs ds = (pack (es zs ds ds.length), 0) ∧ decS zs (pack (es zs ds ds.length)) (ds.length : Int) = (ds, 0) ∧ (decS zs (pack (es zs ds ds.length)) ((ds.length : Int) + 9)).2 ≠ 0 ∧ (pack (es zs ds ds.length)).length ≤ 2 * ds.length := by
  have hok : ∀ d ∈ ds, 0 ≤ d ∧ okB zs d := fun d hd => by
    obtain ⟨i, hi, rfl⟩ := in_getD hd
    exact ⟨hb _ hd, h.2 i hi⟩
  have hes := es_len h ds.length (Nat.le_refl _)
  have he : es zs ds ds.length = esF zs ds := by rw [es_take zs ds _ (Nat.le_refl _), List.take_length]
  obtain ⟨L, hL⟩ : ∃ L, L = (es zs ds ds.length).length := ⟨_, rfl⟩
  have hrow := rowOf_pack (es_bin zs ds ds.length)
  rw [← hL, he] at hrow
  rw [← hL] at hes
  obtain ⟨z, hz⟩ : ∃ z, z = 8 * ((L + 7) / 8) - L := ⟨_, rfl⟩
  rw [← hz] at hrow
  have hz8 : z < 8 := by omega
  refine ⟨by rw [encS, if_pos h], ?_, ?_, ?_⟩
  · rw [decS, if_neg (fun hh => hh h.1), if_neg (by omega), he, hrow, Int.toNat_natCast]
    have := decN_all h.1 (List.replicate z 0) ds [] hok 0
    rw [Nat.add_zero] at this
    rw [this]
    simp only [decN, decEnd, List.nil_append]
    rw [if_neg]
    rw [List.length_replicate]
    rintro (h1 | h1)
    · apply h1
      rw [List.take_replicate]
      exact val_zeros _
    · omega
  · rw [decS, if_neg (fun hh => hh h.1)]
    split
    · decide
    · rw [he, hrow, show ((ds.length : Int) + 9).toNat = ds.length + 9 by omega, decN_all h.1 (List.replicate z 0) ds [] hok 9]
      cases hd : decN zs (codesS zs) 9 (List.replicate z 0) ([] ++ ds) with
      | none => decide
      | some r =>
        have := decN_short _ _ _ _ hd
        rw [List.length_replicate] at this
        omega
  · rw [pack_length, ← hL]
    omega

/-- the counts of some bytes -/
def cntS (ds : List Int) : List Int := bumpS (List.replicate 256 0) ds
theorem cntL_le (ds : List Int) (p : Int) : cntL ds p ≤ ds.length := by
  unfold cntL; exact List.length_filter_le _ _
theorem cntS_get {ds : List Int} (hb : ∀ d ∈ ds, 0 ≤ d ∧ d < 256) (p : Nat) (hp : p < 256) : (cntS ds).getD p 0 = (cntL ds (p : Int) : Int) := by
  have := bumpS_get p ds (List.replicate 256 0) (fun q hq => by rw [List.length_replicate]; exact hb q hq)
  unfold cntS
  rw [this, List.getD_eq_getElem?_getD, List.getElem?_eq_getElem (by rw [List.length_replicate]; exact hp), List.getElem_replicate]
  simp
theorem cntS_len (ds : List Int) : (cntS ds).length = 256 := by unfold cntS; rw [bumpS_length, List.length_replicate]
theorem cntS_may {ds : List Int} (hb : ∀ d ∈ ds, 0 ≤ d ∧ d < 256) (h0 : 0 < ds.length) (hl : ds.length ≤ 65536) : csMay (cntS ds) := by
  refine ⟨by rw [cntS_len]; exact Nat.le_refl _, fun i hi => ?_, ?_⟩
  · rw [cntS_len] at hi
    rw [cntS_get hb i hi]
    have := cntL_le ds (i : Int)
    omega
  · rcases Nat.eq_zero_or_pos (lastK (cntS ds) (cntS ds).length) with h | h
    · exfalso
      have hm := getD_in (l := ds) (i := 0) h0
      have hd := hb _ hm
      have h1 := lastK_zero (cntS ds) (cntS ds).length (ds.getD 0 0).toNat (by omega) (by rw [cntS_len]; omega)
      rw [cntS_get hb _ (by omega), show (((ds.getD 0 0).toNat : Nat) : Int) = ds.getD 0 0 by omega] at h1
      have := cntL_pos.2 hm
      omega
    · exact h
theorem cntS_ok {ds : List Int} (hb : ∀ d ∈ ds, 0 ≤ d ∧ d < 256) (h0 : 0 < ds.length) (hl : ds.length ≤ 65536) : okE (lengthsS (cntS ds)) ds := by
  have hm := cntS_may hb h0 hl
  have hok := lengths_ok hm
  refine ⟨hok.may, fun i hi => ?_⟩
  have hmem := getD_in hi
  have hd := hb _ hmem
  have hc : 0 < (cntS ds).getD (ds.getD i 0).toNat 0 := by
    rw [cntS_get hb _ (by omega), show (((ds.getD i 0).toNat : Nat) : Int) = ds.getD i 0 by omega]
    have := cntL_pos.2 hmem
    omega
  have hlt : (ds.getD i 0).toNat < (lengthsS (cntS ds)).length := by
    by_cases h : (ds.getD i 0).toNat < (lengthsS (cntS ds)).length
    · exact h
    · have := hok.zero _ (by omega) (by rw [cntS_len]; omega : (ds.getD i 0).toNat < (cntS ds).length)
      omega
  exact ⟨by omega, by have := (hok.pos _ hlt).2 hc; omega⟩
end Go.Proofs.Ytbbljpkboojjhaa
