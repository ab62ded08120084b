/- The writer's Put, whatever is asked. -/
import Derived.Test.YtbbljpkboojjhaaWriter
import Derived.Test.YtbbljpkboojjhaaPutS
namespace Go.Proofs.Ytbbljpkboojjhaa
open Go.RowKit

set_option maxHeartbeats 1000000 in
theorem writerPutNo {w : World} {a : Option Addr} {n x : Int} (hn1 : n ≤ 9223372036854775807) (hx1 : x ≤ 9223372036854775807) (h : PutBad n x) :
    Calls Try.prog 26 #[.pointer a, .int .i64 n, .int .i64 x] w fun e w' => e = .returned (.int .i64 1) ∧ w = w' := by
  by_cases h1 : n < 0
  · clear h
    go_enter Try.func26, Try.ntmps26
    go_wp2_with fail
    go_ret
    exact ⟨rfl, rfl⟩
  by_cases h2 : 32 < n
  · clear h
    go_enter Try.func26, Try.ntmps26
    go_wp2_with fail
    go_ret
    exact ⟨rfl, rfl⟩
  obtain ⟨m, rfl⟩ := Int.eq_ofNat_of_zero_le (show 0 ≤ n by omega)
  have hm : m ≤ 32 := by omega
  by_cases h3 : x < 0
  · clear h h1 h2
    go_enter Try.func26, Try.ntmps26
    go_wp2_with fail
    go_ret
    exact ⟨rfl, rfl⟩
  have h4 : 2 ^ m ≤ x := by unfold PutBad at h; simp at h; omega
  obtain ⟨p, hp⟩ : ∃ p : Int, p = 2 ^ m := ⟨_, rfl⟩
  have hp1 : p ≤ 4294967296 := by
    have h32 : ∀ m : Nat, m ≤ 32 → (2 : Int) ^ m ≤ 4294967296 := by decide
    rw [hp]; exact h32 m hm
  have hp0 : 0 < p := by rw [hp]; exact Int.pow_pos (by decide)
  rw [← hp] at h4
  have w1 : IntKind.u64.wrap p = p := wraps_u64 _ (by omega) (by omega)
  have w2 : IntKind.u64.wrap x = x := wraps_u64 _ (by omega) (by omega)
  have hp' := hp.symm
  have h5 : 0 ≤ x := by omega
  clear h hp h1 h2 h3
  go_enter Try.func26, Try.ntmps26
  go_wp2_with fail
  go_ret
  exact ⟨rfl, rfl⟩

theorem writerPutAny {w : World} {b : Nat} {g : Option Nat} {rs : List Int} {n x : Int} (h : Wr w b g rs) (hl : rs.length ≤ 999999999900) (hn1 : n ≤ 9223372036854775807) (hx1 : x ≤ 9223372036854775807) :
    Calls Try.prog 26 #[.pointer (some ⟨b, 0, none⟩), .int .i64 n, .int .i64 x] w fun e w' =>
      ∃ g', e = .returned (.int .i64 (putRow rs n x).2) ∧ Wr w' b g' (putRow rs n x).1 ∧ Fr (fun k => k = b ∨ g = some k) w w' ∧ (g' = g ∨ ∃ k, g' = some k ∧ w.heap.size ≤ k) := by
  by_cases hb : PutBad n x
  · rw [putRow_no hb]
    refine (writerPutNo hn1 hx1 hb).mono ?_
    rintro e w' ⟨rfl, rfl⟩
    exact ⟨g, rfl, h, Fr.refl _ _, .inl rfl⟩
  · rw [putRow_ok hb]
    obtain ⟨h0, h1, h2, h3⟩ := not_putBad hb
    exact writerPutOk h hl h0 h1 h2 h3
end Go.Proofs.Ytbbljpkboojjhaa
