/- Short numbers are read: what 'Num' of the program and of the reference computes. -/
import Derived.Test.YtbbldbdmnaielaaRows
import Derived.Test.YtbbldbdmnaielaaHeap
namespace Go.Proofs.Ytbbldbdmnaielaa
open Go.RowKit

def numS (zs : List Int) : Nat → Nat → Int → Int → Int × Int × Int
  | 0, _, _, _ => (0, 0, 3)
  | f + 1, i, s, n =>
    if i < zs.length then
      if zs.getD i 0 ≥ 128 then numS zs f (i + 1) (s * 128) (n + zs.getD i 0 % 128 * s)
      else if n + zs.getD i 0 % 128 * s > 4294967295 ∨ (i > 0 ∧ zs.getD i 0 = 0) then (0, 0, 3)
      else (n + zs.getD i 0 % 128 * s, (i : Int) + 1, 0)
    else (0, 0, 3)

theorem numS_cont {zs f i s n} (h : i < zs.length) (hz : 128 ≤ zs.getD i 0) : numS zs (f + 1) i s n = numS zs f (i + 1) (s * 128) (n + zs.getD i 0 % 128 * s) := by
  rw [numS, if_pos h, if_pos hz]
theorem numS_bad {zs f i s n} (h : i < zs.length) (hz : zs.getD i 0 < 128) (hb : n + zs.getD i 0 % 128 * s > 4294967295 ∨ (i > 0 ∧ zs.getD i 0 = 0)) : numS zs (f + 1) i s n = (0, 0, 3) := by
  rw [numS, if_pos h, if_neg (by omega), if_pos hb]
theorem numS_good {zs f i s n} (h : i < zs.length) (hz : zs.getD i 0 < 128) (hb : ¬ (n + zs.getD i 0 % 128 * s > 4294967295 ∨ (i > 0 ∧ zs.getD i 0 = 0))) : numS zs (f + 1) i s n = (n + zs.getD i 0 % 128 * s, (i : Int) + 1, 0) := by
  rw [numS, if_pos h, if_neg (by omega), if_neg hb]
theorem numS_end {zs f i s n} (h : ¬ i < zs.length) : numS zs f i s n = (0, 0, 3) := by
  cases f <;> simp [numS, h]

theorem c_cont {zs : List Int} {len k : Nat} {z t m : Int} (HL : Hid (zs.length = len)) (HZ : Hid (z = zs.getD k 0)) (hk : k < len) (h5 : k < 5) (hz : 128 ≤ z)
   (HS : Hid (numS zs 5 0 1 0 = numS zs (5 - k) k t m)) : Hid (numS zs 5 0 1 0 = numS zs (5 - (k + 1)) (k + 1) (t * 128) (m + z % 128 * t)) := by
  have e : 5 - k = 5 - (k + 1) + 1 := by omega
  show _ = _
  rw [HS.out, HZ.out, e, numS_cont (by rw [HL.out]; exact hk) (by rw [← HZ.out]; exact hz)]
theorem c_bad {zs : List Int} {len k : Nat} {z t m : Int} (HL : Hid (zs.length = len)) (HZ : Hid (z = zs.getD k 0)) (HS : Hid (numS zs 5 0 1 0 = numS zs (5 - k) k t m)) (hk : k < len) (h5 : k < 5) (hz : z < 128)
   (hb : 4294967295 < m + z % 128 * t ∨ (0 < k ∧ z = 0)) : numS zs 5 0 1 0 = (0, 0, 3) := by
  have e : 5 - k = 5 - (k + 1) + 1 := by omega
  rw [HS.out, e, numS_bad (by rw [HL.out]; exact hk) (by rw [← HZ.out]; exact hz) (by rw [← HZ.out]; omega)]
theorem c_good {zs : List Int} {len k : Nat} {z t m : Int} (HL : Hid (zs.length = len)) (HZ : Hid (z = zs.getD k 0)) (HS : Hid (numS zs 5 0 1 0 = numS zs (5 - k) k t m)) (hk : k < len) (h5 : k < 5) (hz : z < 128)
   (hb : m + z % 128 * t ≤ 4294967295) (hb2 : k = 0 ∨ z ≠ 0) : numS zs 5 0 1 0 = (m + z % 128 * t, (k : Int) + 1, 0) := by
  have e : 5 - k = 5 - (k + 1) + 1 := by omega
  rw [HS.out, e, numS_good (by rw [HL.out]; exact hk) (by rw [← HZ.out]; exact hz) (by rw [← HZ.out]; omega), HZ.out]
theorem c_end {zs : List Int} {len k : Nat} {t m : Int} (HL : Hid (zs.length = len)) (HS : Hid (numS zs 5 0 1 0 = numS zs (5 - k) k t m)) (hk : ¬ k < len ∨ ¬ k < 5) : numS zs 5 0 1 0 = (0, 0, 3) := by
  rw [HS.out]
  by_cases h : k < 5
  · exact numS_end (by rw [HL.out]; omega)
  · have : 5 - k = 0 := by omega
    rw [this]; rfl

set_option maxHeartbeats 400000 in
theorem refNum {v : Value} {zs : List Int} {w : World} (h : Ints .u8 w v zs) :
    Calls Try.prog 12 #[v] w fun e w' => (w = w' ∧ ∃ n k r, numS zs 5 0 1 0 = (n, k, r) ∧ e = .returned (.tuple #[.int .i64 n, .int .i64 k, .int .i64 r])) := by
  obtain ⟨hwf, a, cap, rfl, hle, hm, _, hc⟩ := h
  obtain ⟨len, hl⟩ : ∃ len, zs.length = len := ⟨_, rfl⟩
  rw [hl] at hle hc
  rw [hl]
  unfold maxLen at hm
  have HL := Lib.hid hl; clear hl
  go_enter Try.func12, Try.ntmps12
  go_wp2
  go_loop [5, 6, 7] (fun n s i => ∃ (k : Nat) (m t : Int), k ≤ 5 ∧ i = .int .i64 k ∧ s = .int .i64 t ∧ n = .int .i64 m ∧ 0 ≤ m ∧ m < t ∧ t ≤ 34359738368 ∧ Hid (t = 128 ^ k) ∧ Hid (numS zs 5 0 1 0 = numS zs (5 - k) k t m)) (fun _ _ i => 5 - (intOf i).toNat)
  case atStart => exact ⟨0, 0, 1, by omega, rfl, rfl, rfl, by omega, by omega, by omega, rfl, rfl⟩
  case round =>
    obtain ⟨k, m, t, hk, rfl, rfl, rfl, hm0, hm1, hm2, HT, HS⟩ := hrel
    by_cases hlt : k < len
    case neg =>
      clear hc
      go_wp2
      go_ret3
      exact ⟨rfl, _, _, _, c_end HL HS (.inl hlt), rfl⟩
    obtain ⟨b, off, rfl, hcell⟩ := hc k hlt
    clear hc
    have hbz := ints_byte hwf (by rw [HL.out]; exact hlt)
    clear hwf
    obtain ⟨z, hz⟩ : ∃ z, z = zs.getD k 0 := ⟨_, rfl⟩
    rw [← hz] at hcell hbz
    have HZ := Lib.hid hz; clear hz
    obtain ⟨hz0, hz1⟩ := hbz
    have hp0 : 0 ≤ z % 128 * t := Int.mul_nonneg (by omega) (by omega)
    have hp1 : z % 128 * t ≤ 127 * t := Int.mul_le_mul_of_nonneg_right (by omega) (by omega)
    have hp2 : k < 5 → t ≤ 268435456 := by
      intro h; rw [HT.out]
      have : k = 0 ∨ k = 1 ∨ k = 2 ∨ k = 3 ∨ k = 4 := by omega
      rcases this with rfl | rfl | rfl | rfl | rfl <;> decide
    go_wp2
    · have h5 : k < 5 := by omega
      go_round
      all_goals go_light
      case rel => exact ⟨k + 1, _, _, by omega, by go_num, rfl, rfl, by omega, by omega, by omega, by show t * 128 = _; rw [HT.out, Int.pow_succ], c_cont HL HZ ‹_› h5 ‹_› HS⟩
      case measure => simp [intOf]; omega
    all_goals go_ret3
    all_goals go_light
    all_goals refine ⟨rfl, _, _, _, ?_, rfl⟩
    · exact c_bad HL HZ HS ‹_› (by omega) ‹_› (by first | (simp_all; done) | (simp_all; omega))
    · exact c_good HL HZ HS ‹_› (by omega) ‹_› (by omega) (by first | (simp_all; done) | (simp_all; omega))
    · exact c_good HL HZ HS ‹_› (by omega) ‹_› (by omega) (by omega)
    · exact c_bad HL HZ HS ‹_› (by omega) ‹_› (by omega)
    · exact c_end HL HS (by omega)

set_option maxHeartbeats 400000 in
theorem bitsNum {v : Value} {zs : List Int} {w : World} (h : Ints .u8 w v zs) :
    Calls Try.prog 11 #[v] w fun e w' => (w = w' ∧ ∃ n k r, numS zs 5 0 1 0 = (n, k, r) ∧ e = .returned (.tuple #[.int .i64 n, .int .i64 k, .int .i64 r])) := by
  obtain ⟨hwf, a, cap, rfl, hle, hm, _, hc⟩ := h
  obtain ⟨len, hl⟩ : ∃ len, zs.length = len := ⟨_, rfl⟩
  rw [hl] at hle hc
  rw [hl]
  unfold maxLen at hm
  have HL := Lib.hid hl; clear hl
  go_enter Try.func11, Try.ntmps11
  go_wp2
  go_loop [5, 6] (fun n i => ∃ (k : Nat) (m t : Int), k ≤ 5 ∧ i = .int .i64 k ∧ n = .int .i64 m ∧ 0 ≤ m ∧ m < t ∧ t ≤ 34359738368 ∧ Hid (t = 128 ^ k) ∧ Hid (numS zs 5 0 1 0 = numS zs (5 - k) k t m)) (fun _ i => 5 - (intOf i).toNat)
  case atStart => exact ⟨0, 0, 1, by omega, rfl, rfl, by omega, by omega, by omega, rfl, rfl⟩
  case round =>
    obtain ⟨k, m, t, hk, rfl, rfl, hm0, hm1, hm2, HT, HS⟩ := hrel
    by_cases hlt : k < len
    case neg =>
      clear hc
      go_wp2
      go_ret3
      exact ⟨rfl, _, _, _, c_end HL HS (.inl hlt), rfl⟩
    obtain ⟨b, off, rfl, hcell⟩ := hc k hlt
    clear hc
    have hbz := ints_byte hwf (by rw [HL.out]; exact hlt)
    clear hwf
    obtain ⟨z, hz⟩ : ∃ z, z = zs.getD k 0 := ⟨_, rfl⟩
    rw [← hz] at hcell hbz
    have HZ := Lib.hid hz; clear hz
    obtain ⟨hz0, hz1⟩ := hbz
    have hp0 : 0 ≤ z % 128 * t := Int.mul_nonneg (by omega) (by omega)
    have hp1 : z % 128 * t ≤ 127 * t := Int.mul_le_mul_of_nonneg_right (by omega) (by omega)
    by_cases h5 : k < 5
    case neg =>
      go_wp2
      go_ret3
      exact ⟨rfl, _, _, _, c_end HL HS (.inr h5), rfl⟩
    have hp2 : t ≤ 268435456 := by
      rw [HT.out]
      have : k = 0 ∨ k = 1 ∨ k = 2 ∨ k = 3 ∨ k = 4 := by omega
      rcases this with rfl | rfl | rfl | rfl | rfl <;> decide
    have ht : (2 : Int) ^ (7 * k) = t := by
      rw [HT.out]
      have : k = 0 ∨ k = 1 ∨ k = 2 ∨ k = 3 ∨ k = 4 := by omega
      rcases this with rfl | rfl | rfl | rfl | rfl <;> decide
    have h1 := and_u8_127 z hz0 hz1
    have h2 : wrap64 (z % 128 * t) = z % 128 * t := IntWalk.wrap64_in _ (by omega)
    have h3 : bits .or .i64 m (z % 128 * t) = m + z % 128 * t := or_i64 (7 * k) _ _ hm0 (by rw [ht]; exact hm1) (by omega) hp0 (by rw [ht, Int.mul_emod_left]) (by omega)
    go_wp2
    · go_round
      all_goals go_light
      case rel => exact ⟨k + 1, _, _, by omega, by go_num, rfl, by omega, by omega, by omega, by show t * 128 = _; rw [HT.out, Int.pow_succ], c_cont HL HZ ‹_› h5 ‹_› HS⟩
      case measure => simp [intOf]; omega
    all_goals go_ret3
    all_goals go_light
    all_goals refine ⟨rfl, _, _, _, ?_, rfl⟩
    · exact c_bad HL HZ HS ‹_› (by omega) ‹_› (by first | (simp_all; done) | (simp_all; omega))
    · exact c_good HL HZ HS ‹_› (by omega) ‹_› (by omega) (by first | (simp_all; done) | (simp_all; omega))
    · exact c_good HL HZ HS ‹_› (by omega) ‹_› (by omega) (by omega)
    · exact c_bad HL HZ HS ‹_› (by omega) ‹_› (by omega)
end Go.Proofs.Ytbbldbdmnaielaa
