/- HuffLengths: the walk. -/
import Derived.Test.YtbbljpkboojjhaaHfLives
import Derived.Test.YtbbljpkboojjhaaRtLen
import Derived.Test.YtbbljpkboojjhaaNumbersH
import Derived.BigQuiet
namespace Go.Proofs.Ytbbljpkboojjhaa
open Go.RowKit

theorem huffLengths {v : Value} {cs : List Int} {w : World} (h : Ints .i64 w v cs) (hsm : cs.length ≤ 17592186043904) :
    Calls Try.prog 8 #[v] w fun e w' => ∃ x, e = .returned (.tuple #[x, .int .i64 (if csMay cs then 0 else 1)]) ∧ Own .i64 3 w.heap.size w' x (if csMay cs then lengthsS cs else []) ∧ Keeps w w' := by
  by_cases hm : csMay cs
  · rw [if_pos hm, if_pos hm]
    exact lengthsYes h hm
  · rw [if_neg hm, if_neg hm]
    refine (lengthsNo h hsm hm).mono ?_
    rintro e w' ⟨rfl, k⟩
    exact ⟨_, rfl, Own.nil _ _ _ _, k⟩

set_option maxRecDepth 100000 in
set_option maxHeartbeats 4000000 in
theorem walkHuffLengths {v : Value} {cs : List Int} {w : World} (h : Ints .i64 w v cs) (hz : cs.length ≤ 17592186043904) :
    Calls Try.prog 3 #[v] w fun e w' => e = .returned (.bool true) ∧ Keeps w w' := by
  have HV := Lib.hid h
  have HZ : Hid (cs.length ≤ 17592186043904) := hz
  obtain ⟨va, vc, rfl⟩ := h.form
  obtain ⟨N, hN⟩ : ∃ N, N = cs.length := ⟨_, rfl⟩
  rw [← hN] at HV ⊢
  obtain ⟨X, hX⟩ : ∃ X, X = (if csMay cs then lengthsS cs else []) := ⟨_, rfl⟩
  obtain ⟨E, hE⟩ : ∃ E, E = (if csMay cs then (0 : Int) else 1) := ⟨_, rfl⟩
  have HX := Lib.hid hX
  have HE := Lib.hid hE
  have HN := Lib.hid hN
  clear h hz hN hX hE
  go_enter Try.func3, Try.ntmps3
  go_wp2_with (at_builtin; go_loud (refine wpList_ints rfl (.tmp 10) (.tmp 11) rfl elemI (.slice none 0 0) rfl rfl (Own.nil .i64 3 w.heap.size _) HV.out (by have h1 := HZ.out; rw [List.length_nil]; omega) (Nat.le_refl _) ?_); intro v1 w1 hown1 hfr1 hat1; rw [List.nil_append] at hown1; obtain ⟨a1, c1, hv1⟩ := hown1.form; rw [← HN.out] at hv1; subst hv1; have kk1 : Keeps w w1 := hfr1.mono (fun i _ h => by cases h); have HO1 := Lib.hid hown1.ints; have K1 := Lib.hid kk1; clear hown1 hfr1 hat1 kk1)
  refine (huffLengths HO1.out HZ.out).mono ?_
  rw [← HX.out, ← HE.out]
  rintro e2 w2 ⟨x2, rfl, o2, k2⟩
  have K2 : Hid (Keeps w w2) := K1.out.keeps k2
  have HO2 := Lib.hid (HO1.out.keeps k2)
  have HX2 := Lib.hid o2.ints
  obtain ⟨a2, c2, hv2⟩ := o2.form
  obtain ⟨LX, hLX⟩ : ∃ L, L = X.length := ⟨_, rfl⟩
  rw [← hLX] at hv2
  subst hv2
  clear o2 k2 hLX
  go_wp2_with fail
  refine (refLengths (HV.out.keeps K2.out) HZ.out).mono ?_
  rw [← HX.out, ← HE.out]
  rintro e3 w3 ⟨x3, rfl, o3, k3⟩
  have K3 : Hid (Keeps w w3) := K2.out.keeps k3
  have HO3 := Lib.hid (HO2.out.keeps k3)
  have HX3 := Lib.hid (HX2.out.keeps k3)
  have HY3 := Lib.hid o3.ints
  obtain ⟨a3, c3, hv3⟩ := o3.form
  obtain ⟨LY, hLY⟩ : ∃ L, L = X.length := ⟨_, rfl⟩
  rw [← hLY] at hv3
  subst hv3
  clear o3 k3 hLY
  go_wp2_with fail
  refine (numbersOf HX3.out HY3.out).mono ?_
  rw [decide_eq_true rfl]
  rintro e4 w4 ⟨rfl, k4⟩
  have K4 : Hid (Keeps w w4) := K3.out.keeps k4
  have HO4 := Lib.hid (HO3.out.keeps k4)
  clear k4
  go_wp2_with fail
  refine (numbersOf HO4.out (HV.out.keeps K4.out)).mono ?_
  rw [decide_eq_true rfl]
  rintro e5 w5 ⟨rfl, k5⟩
  have K5 : Hid (Keeps w w5) := K4.out.keeps k5
  clear k5
  go_wp2_with (go_at_call 11; refine (livesHuff _).mono ?_; rintro e w7 ⟨rfl, k7⟩; have K7 := Lib.hid k7; clear k7)
  go_ret
  go_light
  exact ⟨rfl, K5.out.keeps K7.out⟩
end Go.Proofs.Ytbbljpkboojjhaa
