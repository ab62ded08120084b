/- The reference's reading from the end: Marked, TakeBack: what they compute. -/
import Derived.Test.YtbbldbdmnaielaaRefRow
import Derived.Test.YtbbldbdmnaielaaBack
namespace Go.Proofs.Ytbbldbdmnaielaa
open Go.RowKit

set_option maxHeartbeats 1000000 in
theorem refMarkedNo {v : Value} {zs : List Int} {w : World} (h : Ints .u8 w v zs) (h0 : zs = [] ∨ zs.getD (zs.length - 1) 0 = 0) :
    Calls Try.prog 30 #[v] w fun e w' => e = .returned (.tuple #[.slice none 0 0, .bool false]) ∧ w = w' := by
  by_cases hnil : zs = []
  · subst hnil
    obtain ⟨a, c, rfl⟩ := h.form
    clear h h0
    go_enter Try.func30, Try.ntmps30
    go_wp2
    go_ret2
    exact ⟨rfl, rfl⟩
  · have hl : 0 < zs.length := by
      rcases Nat.eq_zero_or_pos zs.length with h' | h'
      · exact absurd (List.eq_nil_of_length_eq_zero h') hnil
      · exact h'
    have hz0 : zs.getD (zs.length - 1) 0 = 0 := h0.resolve_left hnil
    obtain ⟨_, a, c, rfl, _, hcm, _, hc⟩ := h
    obtain ⟨b, off, rfl, hcell⟩ := hc (zs.length - 1) (by omega)
    rw [hz0] at hcell
    obtain ⟨n, hn⟩ : ∃ n, n = zs.length := ⟨_, rfl⟩
    rw [← hn] at hcell hl ⊢
    unfold maxLen at hcm
    have hn64 : n ≤ 9223372036854775807 := by omega
    clear hc hz0 h0 hnil hn hcm
    have hne : ((n : Int) == 0) = false := by simp; omega
    go_enter Try.func30, Try.ntmps30
    go_wp2
    go_ret2
    exact ⟨rfl, rfl⟩

set_option maxHeartbeats 1000000 in
theorem refMarked {v : Value} {zs : List Int} {w : World} (h : Ints .u8 w v zs) (hz : zs.length ≤ 1000000000000) (hnil : zs ≠ []) (h0 : zs.getD (zs.length - 1) 0 ≠ 0) :
    Calls Try.prog 30 #[v] w fun e w' => ∃ v', e = .returned (.tuple #[v', .bool true]) ∧ Ints .i64 w' v' ((rowOf zs).take (markOf zs)) ∧ (∀ k, v'.ownBlock = some k → w.heap.size ≤ k) ∧ Keeps w w' := by
  have hl : 0 < zs.length := by
    rcases Nat.eq_zero_or_pos zs.length with h' | h'
    · exact absurd (List.eq_nil_of_length_eq_zero h') hnil
    · exact h'
  have hbz := ints_byte h.1 (show zs.length - 1 < zs.length by omega)
  obtain ⟨⟨hmk1, hmk2, hmk3⟩, _, _⟩ := markOf_spec hnil hbz h0
  have hrl := rowOf_length zs
  have HI := Lib.hid h
  obtain ⟨_, a, c, rfl, hnc, hcm, _, hc⟩ := h
  obtain ⟨b, off, rfl, hcell⟩ := hc (zs.length - 1) (by omega)
  obtain ⟨z, hze⟩ : ∃ z, z = zs.getD (zs.length - 1) 0 := ⟨_, rfl⟩
  rw [← hze] at hcell h0
  obtain ⟨n, hn⟩ : ∃ n, n = zs.length := ⟨_, rfl⟩
  rw [← hn] at hcell hl hz HI hnc hrl ⊢
  obtain ⟨M, hM⟩ : ∃ M, M = markOf zs := ⟨_, rfl⟩
  rw [← hM] at hmk1 hmk2 hmk3 ⊢
  have HN := Lib.hid hn
  have HM2 := Lib.hid hmk2
  have HM3 := Lib.hid hmk3
  have HRL := Lib.hid hrl
  have hM1 : M < 8 * n := by omega
  have hne : ((n : Int) == 0) = false := by simp; omega
  have hze0 : (z == 0) = false := by simpa using h0
  clear hc hnil hze hn h0 hcm hbz hmk1 hmk2 hmk3 hrl hM
  go_enter Try.func30, Try.ntmps30
  go_wp2_with fail
  refine (refRow HI.out (by rw [← HN.out]; exact hz)).mono ?_
  rintro e w1 ⟨v1, rfl, hown, hk⟩
  obtain ⟨_, a1, c1, hv1, hc1, hcm1, _, hcc⟩ := hown.ints
  have hblk := hown.lt
  rw [HRL.out] at hv1 hc1
  subst hv1
  have HO := Lib.hid hown
  have HK := Lib.hid hk
  have HB := Lib.hid hblk
  unfold maxLen at hcm1
  clear hown hk hblk hcell
  go_wp2_with fail
  go_loop [5] (fun i => ∃ k : Nat, M ≤ k ∧ k < 8 * n ∧ i = .int .i64 k) (fun i => (intOf i).toNat)
  case atStart => exact ⟨8 * n - 1, by omega, by omega, by go_num⟩
  case round =>
    obtain ⟨k, hk1, hk2, rfl⟩ := hrel
    obtain ⟨rb, ro, rfl, hcell⟩ := hcc k (by rw [HRL.out]; exact hk2)
    by_cases hkM : k = M
    · subst hkM
      rw [HM2.out] at hcell
      have hkc : (k : Int) ≤ (c1 : Int) := by omega
      clear hcc
      go_wp2
      go_ret2
      go_light
      refine ⟨_, rfl, HO.out.ints.take (by omega), fun j hj => (HB.out j ?_).1, HK.out⟩
      rw [← hj]; rfl
    · have hz := HM3.out k (by omega) (by rw [HRL.out]; exact hk2)
      rw [hz] at hcell
      clear hz hcc
      go_wp2
      go_round
      all_goals go_light
      case rel => exact ⟨k - 1, by omega, by omega, by go_num⟩
      case measure => simp [intOf]; omega

set_option maxHeartbeats 1000000 in
theorem refTakeBackNo {v : Value} {bs : List Int} {w : World} {n : Int} (h : Ints .i64 w v bs) (hm : mayS n bs.length ≠ 0) :
    Calls Try.prog 31 #[v, .int .i64 n] w fun e w' => e = .returned (.tuple #[.int .i64 0, v, .int .i64 (mayS n bs.length)]) ∧ w = w' := by
  obtain ⟨a, c, rfl⟩ := h.form
  obtain ⟨L, hL⟩ : ∃ L, L = bs.length := ⟨_, rfl⟩
  have hz := h.len'
  rw [← hL] at hm hz ⊢
  clear hL h
  by_cases h0 : n < 0 ∨ 32 < n
  · have hv : mayS n L = 1 := by rw [mayS, if_pos h0]
    rw [hv]
    clear hv hm
    by_cases h1 : n < 0
    · clear h0
      go_enter Try.func31, Try.ntmps31
      go_wp2
      go_ret3
      exact ⟨rfl, rfl⟩
    · have h2 : 32 < n := by omega
      clear h0
      go_enter Try.func31, Try.ntmps31
      go_wp2
      go_ret3
      exact ⟨rfl, rfl⟩
  · have h1 : (L : Int) < n := by
      rcases Int.lt_or_le (L : Int) n with h | h
      · exact h
      · exact absurd (by rw [mayS, if_neg h0, if_neg (by omega)]) hm
    have hv : mayS n L = 3 := by rw [mayS, if_neg h0, if_pos h1]
    rw [hv]
    have h2 : 0 ≤ n := by omega
    have h3 : n ≤ 32 := by omega
    clear hv hm h0
    go_enter Try.func31, Try.ntmps31
    go_wp2
    go_ret3
    exact ⟨rfl, rfl⟩

set_option maxHeartbeats 1000000 in
theorem refTakeBack {v : Value} {bs : List Int} {w : World} {n : Nat} (h : Ints .i64 w v bs) (hbin : Bin bs) (hz : bs.length ≤ 9000000000000) (hn : n ≤ 32) (hl : n ≤ bs.length) :
    Calls Try.prog 31 #[v, .int .i64 n] w fun e w' => ∃ v', e = .returned (.tuple #[.int .i64 (val (bs.drop (bs.length - n))), v', .int .i64 0]) ∧ Ints .i64 w' v' (bs.take (bs.length - n)) ∧ v'.ownBlock = v.ownBlock ∧ Keeps w w' := by
  have HI := Lib.hid h
  obtain ⟨a, c, hv⟩ := h.form
  subst hv
  have hlen := h.len
  obtain ⟨L, hL⟩ : ∃ L, L = bs.length := ⟨_, rfl⟩
  obtain ⟨m, hm⟩ : ∃ m, m = bs.length - n := ⟨_, rfl⟩
  have HT := Lib.hid (h.take (j := m) (by omega))
  rw [← hm]
  rw [← hL] at hz hl hlen HI hm ⊢
  have hLc : L ≤ c := hlen.2.1
  have hc64 : c ≤ 9223372036854775807 := hlen.2.2
  have HL := Lib.hid hL
  have HB := Lib.hid hbin
  have HM := Lib.hid hm
  have hmn : m + n = L := by omega
  have hw1 : IntKind.i64.wrap ((L : Int) - (n : Int)) = (m : Int) := by rw [wraps_i64 _ (by omega) (by omega)]; omega
  have hm0 : (0 : Int) ≤ (m : Int) := by omega
  have hmc : (m : Int) ≤ (c : Int) := by omega
  have hmi : (L : Int) - (n : Int) = (m : Int) := by omega
  have hd : (bs.drop m).take n = bs.drop m := List.take_of_length_le (by rw [List.length_drop, ← HL.out]; omega)
  have HD := Lib.hid hd
  clear h hlen hL hbin hm hd
  have hn0 : (0 : Int) ≤ (n : Int) := by omega
  have hnl : (n : Int) ≤ (L : Int) := by omega
  go_enter Try.func31, Try.ntmps31
  go_wp2_with fail
  go_quiet ((go_at_call 34; exact Calls.quiet_of_same ((refValue (at_ := m) (n := n) (by exact HI.out.keeps (by repeat (first | exact Fr.refl _ _ | apply Fr.drew | apply Fr.drewN))) HB.out (by rw [← HL.out]; omega) (by rw [← HL.out]; omega) hn).mono fun _ _ h => ⟨h.1, h.2.symm⟩)))
  go_wp2
  go_ret3
  go_light
  rw [HD.out]
  exact ⟨_, rfl, HT.out.keeps ((Fr.refl _ w).drewN _), ownBlock_len _ _ _ _ _, (Fr.refl _ _).drewN _⟩
end Go.Proofs.Ytbbldbdmnaielaa
