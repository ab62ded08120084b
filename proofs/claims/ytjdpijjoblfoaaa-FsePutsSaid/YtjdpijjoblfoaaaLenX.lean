/- The library's Len of a number below 1024. -/
import Derived.Test.YtjdpijjoblfoaaaLen8
namespace Go.Proofs.Ytjdpijjoblfoaaa

set_option maxRecDepth 100000 in
theorem bitsLen64 (x : Int) (w : World) (h0 : 0 ≤ x) (h1 : x ≤ 1023) :
    Calls Try.prog 56 #[.int .u64 x] w fun e w' => e = .returned (.int .i64 (Lib.bitLen x.toNat)) ∧ w' = w := by
  by_cases h : x < 256
  · rw [← Lib.len8_int x h0 (by omega)]
    have t1 : decide (4294967296 ≤ x) = false := decide_eq_false (by omega)
    have t2 : decide (65536 ≤ x) = false := decide_eq_false (by omega)
    have t3 : decide (256 ≤ x) = false := decide_eq_false (by omega)
    go_enter Try.func56, Try.ntmps56
    go_wp2
    go_ret
    refine ⟨?_, rfl⟩
    show Ending.returned (Value.int .i64 ((Lib.len8 (x % 256) + 9223372036854775808) % 18446744073709551616 - 9223372036854775808)) = _
    rw [Int.emod_eq_of_lt h0 (by omega)]
  · have e : (Lib.bitLen x.toNat : Int) = 8 + Lib.bitLen (x / 256).toNat := by
      have := Lib.bitLen_shift8 x.toNat (by omega) (by omega)
      rw [this]
      have : (x / 256).toNat = x.toNat / 256 := by omega
      rw [this]
      omega
    rw [e]
    have t1 : decide (4294967296 ≤ x) = false := decide_eq_false (by omega)
    have t2 : decide (65536 ≤ x) = false := decide_eq_false (by omega)
    have t3 : 256 ≤ x := by omega
    obtain ⟨y, hy⟩ : ∃ y, y = x / 256 := ⟨_, rfl⟩
    go_enter Try.func56, Try.ntmps56
    go_wp2
    go_ret
    refine ⟨?_, rfl⟩
    show Ending.returned (Value.int .i64 ((8 + ((Lib.len8 (x / 256 % 256) + 9223372036854775808) % 18446744073709551616 - 9223372036854775808) + 9223372036854775808) % 18446744073709551616 - 9223372036854775808)) = _
    rw [show x / 256 % 256 = x / 256 by omega, Lib.len8_int (x / 256) (by omega) (by omega)]
    have hb := bitLen8_le ⟨(x / 256).toNat, by omega⟩
    dsimp only at hb
    obtain ⟨q, hq⟩ : ∃ q, q = Lib.bitLen (x / 256).toNat := ⟨_, rfl⟩
    rw [← hq] at hb ⊢
    have e2 : (8 + (q : Int) + 9223372036854775808) % 18446744073709551616 - 9223372036854775808 = 8 + (q : Int) := by omega
    rw [e2]

set_option maxHeartbeats 400000 in
theorem bitsLen (x : Int) (w : World) (h0 : 0 ≤ x) (h1 : x ≤ 1023) :
    Calls Try.prog 47 #[.int .u64 x] w fun e w' => e = .returned (.int .i64 (Lib.bitLen x.toNat)) ∧ w' = w := by
  have H := bitsLen64 x w h0 h1
  generalize (Lib.bitLen x.toNat : Int) = r at *
  go_enter Try.func47, Try.ntmps47
  go_wp2_with fail
  refine H.mono ?_
  rintro e w1 ⟨rfl, rfl⟩
  go_wp2_with fail
  go_ret
  exact ⟨rfl, rfl⟩
end Go.Proofs.Ytjdpijjoblfoaaa
