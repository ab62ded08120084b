/- 'BitsShort' returns true: the walk. -/
import Derived.Test.YtbbldbdmnaielaaLawBitsNumsW
namespace Go.Proofs.Ytbbldbdmnaielaa
open Go.RowKit

theorem putS_mono : ∀ (f : Nat) (a b : Int), a ≤ b → (putS f a).length ≤ (putS f b).length := by
  intro f
  induction f with
  | zero => intro a b _; simp [putS]
  | succ f ih =>
    intro a b h
    by_cases ha : 128 ≤ a
    · rw [putS_more ha, putS_more (by omega)]
      have := ih (a / 128) (b / 128) (by omega)
      simp; omega
    · rw [putS_last (by omega)]
      by_cases hb : 128 ≤ b
      · rw [putS_more hb]; simp
      · rw [putS_last (by omega)]; simp

theorem ints_nil (k : IntKind) (w : World) : Ints k w (.slice none 0 0) [] := (Own.nil k 0 0 w).ints

set_option maxRecDepth 100000 in
set_option maxHeartbeats 1000000 in
theorem walkBitsShort {a b : Int} {w : World} :
    Calls Try.prog 6 #[.int .i64 a, .int .i64 b] w fun e w' => e = .returned (.bool true) ∧ Keeps w w' := by
  by_cases ha : 0 ≤ a ∧ a ≤ 4294967295
  · by_cases hb : 0 ≤ b ∧ b ≤ 4294967295
    · have la := putS_length 5 a ha.1 (by omega) (by omega)
      have lb := putS_length 5 b hb.1 (by omega) (by omega)
      have lm := putS_mono 5 a b
      obtain ⟨M, hM⟩ : ∃ M, M = (putS 5 a).length := ⟨_, rfl⟩
      obtain ⟨N, hN⟩ : ∃ N, N = (putS 5 b).length := ⟨_, rfl⟩
      rw [← hM] at la lm
      rw [← hN] at lb lm
      have HM := Lib.hid hM
      have HN := Lib.hid hN
      clear hM hN
      by_cases hab : b < a
      all_goals
        go_enter Try.func6, Try.ntmps6
        go_wp2_with fail
        refine (putNumOk (ints_nil _ _) (by simp) ha.1 ha.2).mono ?_
        rintro e w1 ⟨v1, rfl, o1, k1⟩
        go_wp2_with fail
        refine (putNumOk (ints_nil _ _) (by simp) hb.1 hb.2).mono ?_
        rintro e w2 ⟨v2, rfl, o2, k2⟩
        obtain ⟨a1, c1, hv1⟩ := o1.form
        obtain ⟨a2, c2, hv2⟩ := o2.form
        rw [List.nil_append, ← HM.out] at hv1
        rw [List.nil_append, ← HN.out] at hv2
        clear o1 o2
        subst hv1 hv2
        have K2 := Lib.hid (k1.keeps k2)
        clear k1 k2
        have hle : ¬ b < a → M ≤ N := fun h => lm (by omega)
        clear lm
        have hle2 : b < a ∨ M ≤ N := by omega
        clear hle
        go_wp2_with (go_at_call 13; refine (livesBits _).mono ?_; rintro e w7 ⟨rfl, k7⟩; have K7 := Lib.hid k7; clear k7)
        go_ret
        go_light
        refine ⟨?_, Fr.keeps K2.out K7.out⟩
        first | rfl | (simp; omega)
    · have hb' : b < 0 ∨ 4294967295 < b := by omega
      go_enter Try.func6, Try.ntmps6
      go_wp2_with fail
      refine (putNumOk (ints_nil _ _) (by simp) ha.1 ha.2).mono ?_
      rintro e w1 ⟨v1, rfl, o1, k1⟩
      go_wp2_with fail
      refine (putNumBad (ints_nil _ _) (by simp) hb').mono ?_
      rintro e w2 ⟨v2, rfl, o2, k2⟩
      have K2 := Lib.hid (k1.keeps k2)
      clear o1 o2 k1 k2 hb hb'
      go_wp2_with (go_at_call 13; refine (livesBits _).mono ?_; rintro e w7 ⟨rfl, k7⟩; have K7 := Lib.hid k7; clear k7)
      go_ret
      go_light
      exact ⟨rfl, Fr.keeps K2.out K7.out⟩
  · have ha' : a < 0 ∨ 4294967295 < a := by omega
    by_cases hb : 0 ≤ b ∧ b ≤ 4294967295
    · go_enter Try.func6, Try.ntmps6
      go_wp2_with fail
      refine (putNumBad (ints_nil _ _) (by simp) ha').mono ?_
      rintro e w1 ⟨v1, rfl, o1, k1⟩
      go_wp2_with fail
      refine (putNumOk (ints_nil _ _) (by simp) hb.1 hb.2).mono ?_
      rintro e w2 ⟨v2, rfl, o2, k2⟩
      have K2 := Lib.hid (k1.keeps k2)
      clear o1 o2 k1 k2 ha ha'
      go_wp2_with (go_at_call 13; refine (livesBits _).mono ?_; rintro e w7 ⟨rfl, k7⟩; have K7 := Lib.hid k7; clear k7)
      go_ret
      go_light
      exact ⟨rfl, Fr.keeps K2.out K7.out⟩
    · have hb' : b < 0 ∨ 4294967295 < b := by omega
      go_enter Try.func6, Try.ntmps6
      go_wp2_with fail
      refine (putNumBad (ints_nil _ _) (by simp) ha').mono ?_
      rintro e w1 ⟨v1, rfl, o1, k1⟩
      go_wp2_with fail
      refine (putNumBad (ints_nil _ _) (by simp) hb').mono ?_
      rintro e w2 ⟨v2, rfl, o2, k2⟩
      have K2 := Lib.hid (k1.keeps k2)
      clear o1 o2 k1 k2 ha ha' hb hb'
      go_wp2_with (go_at_call 13; refine (livesBits _).mono ?_; rintro e w7 ⟨rfl, k7⟩; have K7 := Lib.hid k7; clear k7)
      go_ret
      go_light
      exact ⟨rfl, Fr.keeps K2.out K7.out⟩
end Go.Proofs.Ytbbldbdmnaielaa
