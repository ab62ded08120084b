/- The reference's rows of bits: Row, Value: what they compute. -/
import Derived.Test.YtbbljpkboojjhaaNumber
namespace Go.Proofs.Ytbbljpkboojjhaa
open Go.RowKit

theorem wf_bit {b : Int} (h : b = 0 ∨ b = 1) : (Lit.int .i64 b).wf = true := by rcases h with h | h <;> rw [h] <;> decide
theorem wf_bits {l : List Int} (h : Bin l) : ∀ z ∈ l, (Lit.int .i64 z).wf = true := fun z hz => wf_bit (h z hz)

theorem rowOf_take_succ {zs : List Int} {k : Nat} (h : k < zs.length) : rowOf (zs.take (k + 1)) = rowOf (zs.take k) ++ bitsOf 8 (zs.getD k 0) := by
  rw [List.take_succ_eq_append_getElem h, rowOf_append]
  simp [rowOf, List.getD_eq_getElem?_getD, List.getElem?_eq_getElem h]

theorem bitsOf_take (n k : Nat) (v : Int) (h : k ≤ n) : (bitsOf n v).take k = bitsOf k v := by
  induction n generalizing k v with
  | zero => have : k = 0 := by omega
            subst this; rfl
  | succ n ih =>
    cases k with
    | zero => rfl
    | succ k => simp [bitsOf, ih k (v / 2) (by omega)]
theorem bitsOf_succ (k : Nat) (v : Int) : bitsOf (k + 1) v = bitsOf k v ++ [v / 2 ^ k % 2] := by
  induction k generalizing v with
  | zero => simp [bitsOf]
  | succ k ih =>
    rw [bitsOf, ih (v / 2), bitsOf, List.cons_append]
    congr 3
    rw [Int.ediv_ediv_of_nonneg (by decide), Int.pow_succ, Int.mul_comm]

set_option maxHeartbeats 1000000 in
theorem refRow {v : Value} {zs : List Int} {w : World} (h : Ints .u8 w v zs) (hz : zs.length ≤ 1000000000000) :
    Calls Try.prog 16 #[v] w fun e w' => ∃ v', e = .returned v' ∧ Own .i64 3 w.heap.size w' v' (rowOf zs) ∧ Keeps w w' := by
  obtain ⟨hwf, a, c, rfl, hza, hzc, _, hc⟩ := h
  unfold maxLen at hzc
  obtain ⟨n, hn⟩ : ∃ n, n = zs.length := ⟨_, rfl⟩
  rw [← hn] at hza hc hz ⊢
  have HN := Lib.hid hn
  clear hn
  go_enter Try.func16, Try.ntmps16
  go_wp2_with fail
  go_loopw [3, 4] (fun o i wr => ∃ k : Nat, k ≤ n ∧ i = .int .i64 k ∧ Own .i64 3 w.heap.size wr o (rowOf (zs.take k)) ∧ Keeps w wr) (fun _ i _ => n - (intOf i).toNat)
  case atStart => exact ⟨0, by omega, rfl, Own.nil _ _ _ _, Fr.refl _ _⟩
  case round =>
    obtain ⟨k, hk, rfl, hown, hkeep⟩ := hrel
    by_cases hlt : k < n
    case neg =>
      clear hc
      go_wp2_with fail
      go_ret
      go_light
      refine ⟨_, rfl, ?_, hkeep⟩
      rw [List.take_of_length_le (by have := HN.out; omega)] at hown
      exact hown
    obtain ⟨b, off, rfl, hcell⟩ := hc k hlt
    clear hc
    have hcell := hkeep.cell (fun h => h) hcell
    have hbz := ints_byte hwf (show k < zs.length by have := HN.out; omega)
    obtain ⟨z, hze⟩ : ∃ z, z = zs.getD k 0 := ⟨_, rfl⟩
    rw [← hze] at hbz hcell
    have HZ := Lib.hid hze
    have hrl : (rowOf (zs.take k)).length = 8 * k := by rw [rowOf_length, List.length_take]; have := HN.out; omega
    obtain ⟨R, hR⟩ : ∃ R, R = rowOf (zs.take k) := ⟨_, rfl⟩
    rw [← hR] at hrl hown
    have HR := Lib.hid hR
    have HRL := Lib.hid hrl
    clear hze hwf hR hrl
    obtain ⟨hz0, hz1⟩ := hbz
    have hsz := hkeep.size
    go_wp2_with fail
    go_loopw [3, 5, 6] (fun o x i wr2 => ∃ (j : Nat) (y : Int), j ≤ 8 ∧ i = .int .i64 j ∧ x = .int .i64 y ∧ 0 ≤ y ∧ y < 256 ∧ Hid (y = z / 2 ^ j) ∧ Own .i64 3 w.heap.size wr2 o (R ++ bitsOf j z) ∧ Keeps w wr2) (fun _ _ i _ => 8 - (intOf i).toNat)
    case atStart => exact ⟨0, z, by omega, rfl, rfl, by omega, by omega, by show z = z / 2 ^ 0; simp, by simpa [bitsOf] using hown, hkeep⟩
    case round =>
      obtain ⟨j, y, hj, rfl, rfl, hy0, hy1, HY, hown, hkeep⟩ := hrel
      have hsz := hkeep.size
      by_cases hj8 : j < 8
      case neg =>
        have hj' : j = 8 := by omega
        subst hj'
        go_wp2_with fail
        go_roundw
        all_goals go_light
        case rel =>
          refine ⟨k + 1, by omega, by go_num, ?_, hkeep⟩
          rw [rowOf_take_succ (by have := HN.out; omega), ← HZ.out, ← HR.out]
          exact hown
        case measure => simp [intOf]; omega
      have hroom : (R ++ bitsOf j z).length ≤ 9000000000000 := by rw [List.length_append, bitsOf_length, HRL.out]; omega
      go_wp2_with (at_builtin; refine wpList_int rfl (.tmp 22) (.tmp 25) rfl elemI _ rfl rfl hown (wf_bit (by omega)) (by omega) (by omega) ?_; intro v2 w2 hown2 hfr2 hat2)
      go_roundw
      all_goals go_light
      case rel =>
        refine ⟨j + 1, y / 2, by omega, by go_num, rfl, by omega, by omega, ?_, ?_, Keeps.own hkeep hown (Nat.le_refl _) hfr2⟩
        · show y / 2 = z / 2 ^ (j + 1)
          rw [HY.out, Int.ediv_ediv_of_nonneg (by exact Int.le_of_lt (pow_pos2 j)), Int.pow_succ]
        · rw [bitsOf_succ, ← HY.out, ← List.append_assoc]
          exact hown2
      case measure => simp [intOf]; omega

end Go.Proofs.Ytbbljpkboojjhaa
