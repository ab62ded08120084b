/- One bit and some bits of bytes, and what stands against taking them. -/
import Derived.Test.YtbbljpkboojjhaaElems
import Derived.Test.YtbbljpkboojjhaaMath
import Derived.BigQuiet
import Derived.Deep.LoopGhost
namespace Go.Proofs.Ytbbljpkboojjhaa
open Go.RowKit

theorem pow_le31 : ∀ m : Nat, m ≤ 31 → (2 : Int) ^ m ≤ 2147483648 := by decide
theorem pow_le32 : ∀ m : Nat, m ≤ 32 → (2 : Int) ^ m ≤ 4294967296 := by decide
theorem pow_pos2 (m : Nat) : (0 : Int) < 2 ^ m := Int.pow_pos (by decide)

set_option maxHeartbeats 1000000 in
theorem bitAt {v : Value} {zs : List Int} {w : World} {i : Nat} (h : Ints .u8 w v zs) (hi : i < 8 * zs.length) :
    Calls Try.prog 43 #[v, .int .i64 i] w fun e w' => e = .returned (.int .i64 ((rowOf zs).getD i 0)) ∧ w = w' := by
  have hr := rowOf_getD zs i hi
  obtain ⟨hwf, a, c, rfl, hza, hzc, _, hz⟩ := h
  unfold maxLen at hzc
  have hbz := ints_byte hwf (show i / 8 < zs.length by omega)
  obtain ⟨b, off, rfl, hc⟩ := hz (i / 8) (by omega)
  obtain ⟨z, hze⟩ : ∃ z, z = zs.getD (i / 8) 0 := ⟨_, rfl⟩
  rw [← hze] at hbz hc hr
  obtain ⟨q, hq⟩ : ∃ q, q = z / 2 ^ (i % 8) := ⟨_, rfl⟩
  rw [← hq] at hr
  have hq0 : 0 ≤ q := by rw [hq]; exact Int.ediv_nonneg hbz.1 (Int.le_of_lt (pow_pos2 _))
  have hq1 : q < 256 := by
    have : q ≤ z := by rw [hq]; exact Int.ediv_le_self _ hbz.1
    omega
  have hand := and_i64_1 q hq0 (by omega)
  have hq' := hq.symm
  obtain ⟨n, hn⟩ : ∃ n, n = zs.length := ⟨_, rfl⟩
  rw [← hn] at hza hi ⊢
  have HR := Lib.hid hr
  clear hr hq hz hwf hze hn
  have hi1 : i / 8 < n := by omega
  go_enter Try.func43, Try.ntmps43
  go_wp2
  go_ret
  exact ⟨by rw [HR.out]; rfl, rfl⟩

set_option maxHeartbeats 1000000 in
theorem numberAt {v : Value} {zs : List Int} {w : World} {at_ n : Nat} (h : Ints .u8 w v zs) (hi : at_ + n ≤ 8 * zs.length) (hz : zs.length ≤ 140737488351232) (hn : n ≤ 32) :
    Calls Try.prog 39 #[v, .int .i64 at_, .int .i64 n] w fun e w' => e = .returned (.int .i64 (val (((rowOf zs).drop at_).take n))) ∧ w = w' := by
  obtain ⟨row, hrow⟩ : ∃ row, row = rowOf zs := ⟨_, rfl⟩
  have hbin : Bin row := by rw [hrow]; exact rowOf_bin zs
  have hrl : row.length = 8 * zs.length := by rw [hrow, rowOf_length]
  have HB := Lib.hid hbin
  have HRL := Lib.hid hrl
  rw [← hrow]
  have HROW := Lib.hid hrow
  clear hbin hrl hrow
  go_enter Try.func39, Try.ntmps39
  go_wp2
  go_loop [7, 10] (fun x i => ∃ k : Nat, k ≤ n ∧ i = .int .i64 k ∧ x = .int .i64 (val ((row.drop at_).take k))) (fun _ i => n - (intOf i).toNat)
  case atStart => exact ⟨0, by omega, rfl, rfl⟩
  case round =>
    obtain ⟨k, hk, rfl, rfl⟩ := hrel
    by_cases hlt : k < n
    case neg =>
      have hkn : k = n := by omega
      subst hkn
      go_wp2
      go_ret
      exact ⟨rfl, rfl⟩
    have hV0 := val_nonneg ((HB.out.tail at_).init k)
    have hV1 := val_lt ((HB.out.tail at_).init k)
    have hlk : ((row.drop at_).take k).length = k := by rw [List.length_take, List.length_drop, HRL.out]; omega
    rw [hlk] at hV1
    have hs := val_take_succ (row.drop at_) k (by rw [List.length_drop, HRL.out]; omega)
    have hbit : (row.drop at_).getD k 0 = row.getD (at_ + k) 0 := by simp [List.getD_eq_getElem?_getD]
    rw [hbit] at hs
    have hb01 : row.getD (at_ + k) 0 = 0 ∨ row.getD (at_ + k) 0 = 1 := by
      have h1 := HRL.out
      rw [List.getD_eq_getElem?_getD, List.getElem?_eq_getElem (show at_ + k < row.length by omega)]
      exact HB.out _ (List.getElem_mem _)
    obtain ⟨b, hb⟩ : ∃ b, b = row.getD (at_ + k) 0 := ⟨_, rfl⟩
    rw [← hb] at hs hb01
    obtain ⟨V, hV⟩ : ∃ V, V = val ((row.drop at_).take k) := ⟨_, rfl⟩
    rw [← hV] at hV0 hV1 hs ⊢
    obtain ⟨s, hse⟩ : ∃ s : Int, s = 2 ^ k := ⟨_, rfl⟩
    have hs31 : s ≤ 2147483648 := by rw [hse]; exact pow_le31 k (by omega)
    have hs0 : 0 < s := by rw [hse]; exact pow_pos2 k
    rw [← hse] at hV1 hs
    have hm0 : 0 ≤ b * s := by rcases hb01 with h | h <;> rw [h] <;> omega
    have hm1 : b * s ≤ s := by rcases hb01 with h | h <;> rw [h] <;> omega
    have hmm : b * s % s = 0 := Int.mul_emod_left _ _
    have hor : bits .or .i64 V (b * s) = V + b * s := or_i64 k _ _ hV0 (by rw [← hse]; exact hV1) (by omega) hm0 (by rw [← hse]; exact hmm) (by omega)
    have hwr : wrap64 (b * s) = b * s := IntWalk.wrap64_in _ (by omega)
    have hse' := hse.symm
    have HSS := Lib.hid hs
    have HBB := Lib.hid hb
    clear hs hbit hb hV hse hmm hlk hb01
    go_wp2_with (go_at_call 43; refine (bitAt (i := at_ + k) h (by omega)).mono ?_; rintro e w' ⟨rfl, rfl⟩; rw [← HROW.out, ← HBB.out])
    go_round
    all_goals go_light
    case rel => exact ⟨k + 1, by omega, by go_num, by rw [HSS.out]⟩
    case measure => simp [intOf]; omega

/-- what stands against taking n bits of so many -/
def mayS (n left : Int) : Int := if n < 0 ∨ 32 < n then 1 else if left < n then 3 else 0

theorem mayOf (n left : Int) (w : World) :
    Calls Try.prog 38 #[.int .i64 n, .int .i64 left] w fun e w' => e = .returned (.int .i64 (mayS n left)) ∧ w = w' := by
  by_cases h0 : n < 0
  · go_enter Try.func38, Try.ntmps38
    go_wp2
    go_ret
    exact ⟨by rw [mayS, if_pos (.inl h0)]; rfl, rfl⟩
  · by_cases h1 : 32 < n
    · go_enter Try.func38, Try.ntmps38
      go_wp2
      go_ret
      exact ⟨by rw [mayS, if_pos (.inr h1)]; rfl, rfl⟩
    · by_cases h2 : left < n
      · go_enter Try.func38, Try.ntmps38
        go_wp2
        go_ret
        exact ⟨by rw [mayS, if_neg (by omega), if_pos h2]; rfl, rfl⟩
      · go_enter Try.func38, Try.ntmps38
        go_wp2
        go_ret
        exact ⟨by rw [mayS, if_neg (by omega), if_neg (by omega)]; rfl, rfl⟩

end Go.Proofs.Ytbbljpkboojjhaa
