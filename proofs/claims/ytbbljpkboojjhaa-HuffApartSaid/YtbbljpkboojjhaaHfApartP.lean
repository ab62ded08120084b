/- Two codes in bytes, and their bits. Plain. -/
import Derived.Test.YtbbljpkboojjhaaHfPre
namespace Go.Proofs.Ytbbljpkboojjhaa

theorem encS_one {zs : List Int} (h : HMay zs) {a : Nat} (ha : a < zs.length) (h0 : zs.getD a 0 ≠ 0) : encS zs [(a : Int)] = (pack (codeB zs (a : Int)), 0) := by
  rw [encS, if_pos]
  · simp [es]
  · refine ⟨h, fun i hi => ?_⟩
    obtain rfl : i = 0 := by simp at hi; omega
    exact ⟨by simp; omega, by simpa using h0⟩
theorem row_one (zs : List Int) (d : Int) : ∃ p, rowOf (pack (codeB zs d)) = p ∧ (zs.getD d.toNat 0).toNat ≤ p.length ∧ ∀ i, i < (zs.getD d.toNat 0).toNat → p.getD i 0 = (codeB zs d).getD i 0 := by
  have hl := codeB_len zs d
  refine ⟨_, rowOf_pack (codeB_bin zs d), by rw [List.length_append]; omega, fun i hi => ?_⟩
  rw [List.getD_eq_getElem?_getD, List.getElem?_append_left (by omega), ← List.getD_eq_getElem?_getD]
theorem apart_bits {zs : List Int} (h : HMay zs) {a b : Nat} (ha : a < zs.length) (hb : b < zs.length) (ha0 : zs.getD a 0 ≠ 0) (hb0 : zs.getD b 0 ≠ 0) (hab : a ≠ b) (P Q : List Int)
    (hP : ∀ i, i < (zs.getD a 0).toNat → P.getD i 0 = (codeB zs (a : Int)).getD i 0) (hQ : ∀ i, i < (zs.getD b 0).toNat → Q.getD i 0 = (codeB zs (b : Int)).getD i 0) :
    ∃ i, i < (zs.getD a 0).toNat ∧ i < (zs.getD b 0).toNat ∧ P.getD i 0 ≠ Q.getD i 0 := by
  have pa := (h.2.1 a ha).1
  have pb := (h.2.1 b hb).1
  by_cases hle : (zs.getD a 0).toNat ≤ (zs.getD b 0).toNat
  · obtain ⟨i, hi, hne⟩ := codes_differ h ha hb (by omega) (by omega) hab hle
    exact ⟨i, hi, by omega, by rw [hP i hi, hQ i (by omega)]; exact hne⟩
  · obtain ⟨i, hi, hne⟩ := codes_differ h hb ha (by omega) (by omega) (fun e => hab e.symm) (by omega)
    exact ⟨i, by omega, hi, by rw [hP i (by omega), hQ i hi]; exact fun e => hne e.symm⟩
end Go.Proofs.Ytbbljpkboojjhaa
