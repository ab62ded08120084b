/- 'BitsNum' returns true: the walk. -/
import Derived.Test.YtbbldbdmnaielaaLives
namespace Go.Proofs.Ytbbldbdmnaielaa
open Go.RowKit

theorem numS_res (zs : List Int) : ∀ (f i : Nat) (s n : Int), (numS zs f i s n).2.2 = 3 ∨
    ((numS zs f i s n).2.2 = 0 ∧ ∃ j : Nat, (numS zs f i s n).2.1 = (j : Int) + 1 ∧ i ≤ j ∧ j < zs.length ∧ numS (zs.take j) f i s n = (0, 0, 3)) := by
  intro f
  induction f with
  | zero => intro i s n; exact .inl rfl
  | succ f ih =>
    intro i s n
    by_cases hi : i < zs.length
    · by_cases hz : 128 ≤ zs.getD i 0
      · rw [numS_cont hi hz]
        rcases ih (i + 1) (s * 128) (n + zs.getD i 0 % 128 * s) with h | ⟨h, j, h1, h2, h3, h4⟩
        · exact .inl h
        · refine .inr ⟨h, j, h1, by omega, h3, ?_⟩
          have e : (zs.take j).getD i 0 = zs.getD i 0 := by simp [List.getD_eq_getElem?_getD, List.getElem?_take, show i < j by omega]
          rw [numS_cont (by rw [List.length_take]; omega) (by rw [e]; exact hz), e]
          exact h4
      · by_cases hb : n + zs.getD i 0 % 128 * s > 4294967295 ∨ (i > 0 ∧ zs.getD i 0 = 0)
        · rw [numS_bad hi (by omega) hb]; exact .inl rfl
        · rw [numS_good hi (by omega) hb]
          exact .inr ⟨rfl, i, rfl, Nat.le_refl _, hi, numS_end (by rw [List.length_take]; omega)⟩
    · rw [numS_end hi]; exact .inl rfl

set_option maxHeartbeats 1000000 in
theorem walkBitsNum {v : Value} {zs : List Int} {w : World} (h : Ints .u8 w v zs) :
    Calls Try.prog 3 #[v] w fun e w' => e = .returned (.bool true) ∧ Keeps w w' := by
  have hres := numS_res zs 5 0 1 0
  obtain ⟨a, c, rfl⟩ := h.form
  go_enter Try.func3, Try.ntmps3
  go_wp2_with fail
  refine (bitsNum h).mono ?_
  rintro e w1 ⟨rfl, n, k, r, h1, rfl⟩
  rw [h1] at hres
  have H1 := Lib.hid h1; clear h1
  have HRES := Lib.hid hres; clear hres
  go_wp2_with fail
  refine (refNum h).mono ?_
  rintro e w1 ⟨rfl, n', k', r', h1, rfl⟩
  rw [H1.out] at h1
  simp only [Prod.mk.injEq] at h1
  obtain ⟨rfl, rfl, rfl⟩ := h1
  by_cases hr : r = 0
  · subst hr
    rcases HRES.out with h3 | ⟨_, j, hj, _, hjl, hj4⟩
    · exact absurd h3 (by decide)
    have hj : k = (j : Int) + 1 := hj
    subst hj
    have hl := h.len
    rw [hl.1] at hjl
    have hj4 := Lib.hid hj4
    have hjc : j < c := by omega
    have hc64 : c ≤ 9223372036854775807 := hl.2.2
    clear hl
    go_wp2_with fail
    refine (bitsNum (h.take (j := j) (by omega))).mono ?_
    rintro e w1 ⟨rfl, n3, k3, r3, h3, rfl⟩
    rw [hj4.out] at h3
    simp only [Prod.mk.injEq] at h3
    obtain ⟨rfl, rfl, rfl⟩ := h3
    go_wp2_with fail
    refine (livesBits _).mono ?_
    rintro e w2 ⟨rfl, k2⟩
    go_wp2
    go_ret
    exact ⟨rfl, k2⟩
  · have hr3 : r = 3 := by
      rcases HRES.out with h3 | ⟨h3, _⟩
      · exact h3
      · exact absurd h3 hr
    subst hr3
    go_wp2_with fail
    refine (livesBits _).mono ?_
    rintro e w2 ⟨rfl, k2⟩
    go_wp2
    go_ret
    exact ⟨rfl, k2⟩
end Go.Proofs.Ytbbldbdmnaielaa
