/- The reference's Take: what it computes. -/
import Derived.Test.YtbbldbdmnaielaaRefRow
namespace Go.Proofs.Ytbbldbdmnaielaa
open Go.RowKit

set_option maxHeartbeats 1000000 in
theorem refTakeNo {v : Value} {bs : List Int} {w : World} {n : Int} (h : Ints .i64 w v bs) (hm : mayS n bs.length ≠ 0) :
    Calls Try.prog 26 #[v, .int .i64 n] w fun e w' => e = .returned (.tuple #[.int .i64 0, v, .int .i64 (mayS n bs.length)]) ∧ w = w' := by
  obtain ⟨a, c, rfl⟩ := h.form
  obtain ⟨L, hL⟩ : ∃ L, L = bs.length := ⟨_, rfl⟩
  have hz := h.len'
  rw [← hL] at hm hz ⊢
  clear hL h
  by_cases h0 : n < 0 ∨ 32 < n
  · have hv : mayS n L = 1 := by rw [mayS, if_pos h0]
    rw [hv]
    have HV := Lib.hid hv
    clear hv hm
    by_cases h1 : n < 0
    · clear h0
      go_enter Try.func26, Try.ntmps26
      go_wp2
      go_ret3
      exact ⟨rfl, rfl⟩
    · have h2 : 32 < n := by omega
      clear h0
      go_enter Try.func26, Try.ntmps26
      go_wp2
      go_ret3
      exact ⟨rfl, rfl⟩
  · have h1 : (L : Int) < n := by
      rcases Int.lt_or_le (L : Int) n with h | h
      · exact h
      · exact absurd (by rw [mayS, if_neg h0, if_neg (by omega)]) hm
    have hv : mayS n L = 3 := by rw [mayS, if_neg h0, if_pos h1]
    rw [hv]
    have h2 : 0 ≤ n := by omega
    have h3 : n ≤ 32 := by omega
    clear hv hm h0
    go_enter Try.func26, Try.ntmps26
    go_wp2
    go_ret3
    exact ⟨rfl, rfl⟩

set_option maxHeartbeats 1000000 in
theorem refTake {v : Value} {bs : List Int} {w : World} {n : Nat} (h : Ints .i64 w v bs) (hbin : Bin bs) (hz : bs.length ≤ 9000000000000) (hn : n ≤ 32) (hl : n ≤ bs.length) :
    Calls Try.prog 26 #[v, .int .i64 n] w fun e w' => ∃ v', e = .returned (.tuple #[.int .i64 (val (bs.take n)), v', .int .i64 0]) ∧ Ints .i64 w' v' (bs.drop n) ∧ v'.ownBlock = v.ownBlock ∧ Keeps w w' := by
  have HI := Lib.hid h
  obtain ⟨a, c, hv⟩ := h.form
  subst hv
  have hlen := h.len
  have HD := Lib.hid (h.drop (j := n) hl)
  obtain ⟨L, hL⟩ : ∃ L, L = bs.length := ⟨_, rfl⟩
  rw [← hL] at hz hl hlen HI HD ⊢
  have hLc : L ≤ c := hlen.2.1
  have hc64 : c ≤ 9223372036854775807 := hlen.2.2
  have HL := Lib.hid hL
  have HB := Lib.hid hbin
  clear h hlen hL hbin
  have hn0 : (0 : Int) ≤ (n : Int) := by omega
  have hnl : (n : Int) ≤ (L : Int) := by omega
  by_cases hcn : c = n
  · obtain rfl : L = c := by omega
    subst hcn
    go_enter Try.func26, Try.ntmps26
    go_wp2_with fail
    go_quiet ((go_at_call 34; exact Calls.quiet_of_same ((refValue (at_ := 0) (n := L) (by exact HI.out.keeps (by repeat (first | exact Fr.refl _ _ | apply Fr.drew | apply Fr.drewN))) HB.out (by rw [← HL.out]; omega) (by rw [← HL.out]; omega) hn).mono fun _ _ h => ⟨h.1, h.2.symm⟩)))
    go_wp2
    go_ret3
    go_light
    refine ⟨_, rfl, ?_, ownBlock_len _ _ _ _ _, (Fr.refl _ _).drewN _⟩
    have h := HD.out.keeps ((Fr.refl _ w).drewN nq)
    simpa using h
  · have hcn' : n < c := by omega
    go_enter Try.func26, Try.ntmps26
    go_wp2_with fail
    go_quiet ((go_at_call 34; exact Calls.quiet_of_same ((refValue (at_ := 0) (n := n) (by exact HI.out.keeps (by repeat (first | exact Fr.refl _ _ | apply Fr.drew | apply Fr.drewN))) HB.out (by rw [← HL.out]; omega) (by rw [← HL.out]; omega) hn).mono fun _ _ h => ⟨h.1, h.2.symm⟩)))
    go_wp2
    go_ret3
    go_light
    refine ⟨_, rfl, ?_, (ownBlock_map _ _ _ _).trans (ownBlock_len _ _ _ _ _), (Fr.refl _ _).drewN _⟩
    have h := HD.out.keeps ((Fr.refl _ w).drewN nq)
    rw [if_neg hcn] at h
    simpa using h
end Go.Proofs.Ytbbldbdmnaielaa
