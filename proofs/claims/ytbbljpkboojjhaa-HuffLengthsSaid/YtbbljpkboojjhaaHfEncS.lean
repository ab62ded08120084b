/- Bytes as codes. Plain. -/
import Derived.Test.YtbbljpkboojjhaaHfCodes
import Derived.Test.YtbbljpkboojjhaaPutS
namespace Go.Proofs.Ytbbljpkboojjhaa

/-- the first j bits of a code of n, the highest first -/
def cb (n : Nat) (c : Int) : Nat → List Int
  | 0 => []
  | j + 1 => cb n c j ++ [c / 2 ^ (n - 1 - j) % 2]
theorem cb_len (n : Nat) (c : Int) : ∀ j, (cb n c j).length = j
  | 0 => rfl
  | j + 1 => by simp only [cb, List.length_append, List.length_singleton]; rw [cb_len n c j]
theorem cb_bin (n : Nat) (c : Int) : ∀ j, Bin (cb n c j)
  | 0 => fun _ h => by simp [cb] at h
  | j + 1 => (cb_bin n c j).append (fun x hx => by simp at hx; omega)
/-- a byte's code -/
def codeB (zs : List Int) (d : Int) : List Int := cb (zs.getD d.toNat 0).toNat ((codesS zs).getD d.toNat 0) (zs.getD d.toNat 0).toNat
def okB (zs : List Int) (d : Int) : Prop := d < (zs.length : Int) ∧ zs.getD d.toNat 0 ≠ 0
instance (zs : List Int) (d : Int) : Decidable (okB zs d) := by unfold okB; exact inferInstance
def es (zs ds : List Int) : Nat → List Int
  | 0 => []
  | k + 1 => es zs ds k ++ codeB zs (ds.getD k 0)
def okE (zs ds : List Int) : Prop := HMay zs ∧ ∀ i, i < ds.length → okB zs (ds.getD i 0)
instance (zs ds : List Int) : Decidable (okE zs ds) := by unfold okE; exact inferInstance
def encS (zs ds : List Int) : List Int × Int := if okE zs ds then (pack (es zs ds ds.length), 0) else ([], 4)
theorem codeB_bin (zs : List Int) (d : Int) : Bin (codeB zs d) := cb_bin _ _ _
theorem codeB_len (zs : List Int) (d : Int) : (codeB zs d).length = (zs.getD d.toNat 0).toNat := cb_len _ _ _
theorem es_bin (zs ds : List Int) : ∀ k, Bin (es zs ds k)
  | 0 => fun _ h => by simp [es] at h
  | k + 1 => (es_bin zs ds k).append (codeB_bin _ _)
theorem es_len {zs ds : List Int} (h : okE zs ds) : ∀ k, k ≤ ds.length → (es zs ds k).length ≤ 11 * k
  | 0, _ => by simp [es]
  | k + 1, hk => by
    have := es_len h k (by omega)
    simp only [es, List.length_append]
    rw [codeB_len]
    have ho := h.2 k (by omega)
    have := h.1.2.1
    by_cases e : (ds.getD k 0).toNat < zs.length
    · have := this _ e; omega
    · have := ho.2
      rw [List.getD_eq_getElem?_getD, List.getElem?_eq_none (by omega)] at this
      exact absurd rfl this
theorem cdIn_el (zs : List Int) (k : Int) {M : Int} : ∀ (b : Nat) (s : List Int × Int), (∀ i, 0 ≤ s.1.getD i 0 ∧ s.1.getD i 0 ≤ M) → 0 ≤ s.2 → s.2 + (b : Int) ≤ M → ∀ i, 0 ≤ (cdIn zs k b s).1.getD i 0 ∧ (cdIn zs k b s).1.getD i 0 ≤ M
  | 0, s, h, _, _ => h
  | b + 1, s, h, h0, hM => fun i => by
    have ih := cdIn_el zs k b s h h0 (by omega)
    have hb := cdIn_bound zs k s b
    simp only [cdIn]
    split
    · by_cases e : i = b
      · subst e
        by_cases hl : i < (cdIn zs k i s).1.length
        · rw [List.getD_eq_getElem?_getD, List.getElem?_set_self hl]
          simp only [Option.getD_some]
          omega
        · rw [List.getD_eq_getElem?_getD, List.getElem?_eq_none (by rw [List.length_set]; omega)]
          have := ih i
          show (0 : Int) ≤ 0 ∧ (0 : Int) ≤ M
          omega
      · rw [List.getD_eq_getElem?_getD, List.getElem?_set_ne (fun h => e h.symm), ← List.getD_eq_getElem?_getD]
        exact ih i
    · exact ih i
theorem cdOut_el (zs : List Int) (hz : zs.length ≤ 256) : ∀ k, k ≤ 11 → ∀ i, 0 ≤ (cdOut zs k).1.getD i 0 ∧ (cdOut zs k).1.getD i 0 ≤ 600000
  | 0, _, i => by
    show 0 ≤ (List.replicate 256 (0 : Int)).getD i 0 ∧ (List.replicate 256 (0 : Int)).getD i 0 ≤ 600000
    have : (List.replicate 256 (0 : Int)).getD i 0 = 0 := by
      rw [List.getD_eq_getElem?_getD]
      by_cases h : i < 256
      · rw [List.getElem?_eq_getElem (by rw [List.length_replicate]; exact h), List.getElem_replicate]
        rfl
      · rw [List.getElem?_eq_none (by rw [List.length_replicate]; omega)]
        rfl
    rw [this]; decide
  | k + 1, hk, i => by
    have h1 := cdOut_el zs hz k (by omega)
    have h2 := cdOut_bound zs hz k
    have hp : (2 : Int) ^ k ≤ 2 ^ 10 := pow2_mono (by omega)
    rw [show (2 : Int) ^ 10 = 1024 from by decide] at hp
    simp only [cdOut]
    exact cdIn_el zs _ zs.length ((cdOut zs k).1, (cdOut zs k).2 * 2) h1 (by show 0 ≤ (cdOut zs k).2 * 2; omega) (by show (cdOut zs k).2 * 2 + (zs.length : Int) ≤ 600000; omega) i
theorem codes_bound (zs : List Int) (hz : zs.length ≤ 256) (i : Nat) : 0 ≤ (codesS zs).getD i 0 ∧ (codesS zs).getD i 0 ≤ 600000 := cdOut_el zs hz 11 (Nat.le_refl _) i
theorem es_bound {zs ds : List Int} (h : inK zs) : ∀ k, (es zs ds k).length ≤ 11 * k
  | 0 => by simp [es]
  | k + 1 => by
    have := es_bound (ds := ds) h k
    simp only [es, List.length_append]
    rw [codeB_len]
    by_cases e : (ds.getD k 0).toNat < zs.length
    · have := h _ e; omega
    · rw [List.getD_eq_getElem?_getD, List.getElem?_eq_none (by omega)]
      simp
      omega

end Go.Proofs.Ytbbljpkboojjhaa
