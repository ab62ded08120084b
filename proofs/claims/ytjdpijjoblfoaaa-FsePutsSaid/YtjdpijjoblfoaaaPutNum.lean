/- Short numbers are written: what 'PutNum' of the program and of the reference computes. -/
import Derived.Test.YtjdpijjoblfoaaaElems
namespace Go.Proofs.Ytjdpijjoblfoaaa
open Go.RowKit

/-- the bytes of a short number -/
def putS : Nat → Int → List Int
  | 0, n => [n]
  | f + 1, n => if 128 ≤ n then (n % 128 + 128) :: putS f (n / 128) else [n]

theorem putS_more {f : Nat} {n : Int} (h : 128 ≤ n) : putS (f + 1) n = (n % 128 + 128) :: putS f (n / 128) := by rw [putS, if_pos h]
theorem putS_last {f : Nat} {n : Int} (h : n < 128) : putS f n = [n] := by
  cases f with
  | zero => rfl
  | succ f => rw [putS, if_neg (by omega)]

theorem or_128 : ∀ n : Fin 256, bits .or .u8 (n.val : Int) 128 = (n.val : Int) % 128 + 128 := by decide +kernel
theorem or_u8_128 (x : Int) (h0 : 0 ≤ x) (h1 : x < 256) : bits .or .u8 x 128 = x % 128 + 128 := by
  obtain ⟨n, rfl⟩ := Int.eq_ofNat_of_zero_le h0
  exact or_128 ⟨n, by omega⟩

/-- between two bytes: 'pre' is out, m is left -/
def NumRel (B : Nat) (w : World) (zs : List Int) (n : Int) (nv ov : Value) (wr : World) : Prop :=
  ∃ (f : Nat) (m : Int) (pre : List Int), nv = .int .i64 m ∧ 0 ≤ m ∧ m ≤ 4294967295 ∧ Hid (m < 128 ^ f) ∧ pre.length + f = 5 ∧ Own .u8 5 B wr ov (zs ++ pre) ∧ Hid (pre ++ putS f m = putS 5 n) ∧ Keeps w wr

theorem num_step {B : Nat} {w w1 w2 : World} {zs pre : List Int} {n m : Int} {f : Nat} {ov v2 : Value} (h128 : 128 ≤ m) (hm : m ≤ 4294967295) (hf : Hid (m < 128 ^ f)) (hl : pre.length + f = 5) (hown : Own .u8 5 B w1 ov (zs ++ pre)) (HS : Hid (pre ++ putS f m = putS 5 n)) (hk : Keeps w w1) (hB : w.heap.size ≤ B)
    (hown2 : Own .u8 5 B w2 v2 (zs ++ pre ++ [m % 128 + 128])) (hfr2 : Fr (fun j => ov.ownBlock = some j) w1 w2) : NumRel B w zs n (.int .i64 (m / 128)) v2 w2 := by
  have hf := hf.out
  match f, hl, hf, HS with
  | 0, _, hf, _ => simp at hf; omega
  | f + 1, hl, hf, HS =>
    refine ⟨f, m / 128, pre ++ [m % 128 + 128], rfl, by omega, by omega, ?_, by simp; omega, by rw [← List.append_assoc]; exact hown2, ?_, hk.own hown hB hfr2⟩
    · show m / 128 < 128 ^ f
      rw [Int.pow_succ] at hf
      omega
    · show _ = _
      rw [List.append_assoc, List.singleton_append, ← putS_more h128]
      exact HS.out

set_option maxHeartbeats 1000000 in
theorem putNumOk {v : Value} {zs : List Int} {w : World} {n : Int} (h : Ints .u8 w v zs) (hz : zs.length ≤ 140737488355000) (h0 : 0 ≤ n) (h1 : n ≤ 4294967295) :
    Calls Try.prog 42 #[v, .int .i64 n] w fun e w' => ∃ v', e = .returned (.tuple #[v', .int .i64 0]) ∧ Own .u8 5 w.heap.size w' v' (zs ++ putS 5 n) ∧ Keeps w w' := by
  go_enter Try.func42, Try.ntmps42
  go_wp2_with (at_builtin; refine wpList_ints rfl (.const (.slice none 0 0)) (.tmp 7) rfl elemB (.slice none 0 0) rfl rfl (Own.nil .u8 5 w.heap.size _) h (by simp; omega) (by omega) ?_; intro v1 w1 hown1 hfr1 hat1; simp only [List.nil_append] at hown1)
  go_loopw [1, 6] (fun nv ov wr => NumRel w.heap.size w zs n nv ov wr) (fun nv _ _ => (intOf nv).toNat)
  case atStart =>
    go_light
    exact ⟨5, n, [], rfl, h0, h1, by show n < 128 ^ 5; omega, rfl, by simpa using hown1, rfl, hfr1.mono fun i hi h => by simp [Value.ownBlock] at h⟩
  case round =>
    obtain ⟨f, m, pre, rfl, hm0, hm1, hf, hl, hown, HS, hk⟩ := hrel
    have hsz := hk.size
    have hw8 := IntKind.wrap_u8 m
    by_cases h128 : 128 ≤ m
    · have hor := or_u8_128 (m % 256) (by omega) (by omega)
      rw [show m % 256 % 128 = m % 128 from by omega] at hor
      go_wp2_with (at_builtin; refine wpList_int rfl (.tmp 20) (.tmp 24) rfl elemB _ rfl rfl hown (WalkArith.wf_u8 (by omega)) (by simp; omega) (by omega) ?_; intro v2 w2 hown2 hfr2 hat2)
      go_roundw
      all_goals go_light
      case rel => exact num_step h128 hm1 hf hl hown HS hk (Nat.le_refl _) hown2 hfr2
      case measure => simp [intOf]; omega
    · rw [show m % 256 = m from by omega] at hw8
      go_wp2_with (at_builtin; refine wpList_int rfl (.tmp 26) (.tmp 29) rfl elemB _ rfl rfl hown (WalkArith.wf_u8 (by omega)) (by simp; omega) (by omega) ?_; intro v2 w2 hown2 hfr2 hat2)
      go_ret2
      go_light
      refine ⟨v2, rfl, ?_, hk.own hown (Nat.le_refl _) hfr2⟩
      rw [← HS.out, putS_last (by omega), ← List.append_assoc]
      exact hown2

set_option maxHeartbeats 1000000 in
theorem putNumBad {v : Value} {zs : List Int} {w : World} {n : Int} (h : Ints .u8 w v zs) (hz : zs.length ≤ 140737488355000) (h0 : n < 0 ∨ 4294967295 < n) :
    Calls Try.prog 42 #[v, .int .i64 n] w fun e w' => ∃ v', e = .returned (.tuple #[v', .int .i64 1]) ∧ Own .u8 5 w.heap.size w' v' zs ∧ Keeps w w' := by
  by_cases hn : n < 0
  all_goals
    go_enter Try.func42, Try.ntmps42
    go_wp2_with (at_builtin; refine wpList_ints rfl (.const (.slice none 0 0)) (.tmp 7) rfl elemB (.slice none 0 0) rfl rfl (Own.nil .u8 5 w.heap.size _) h (by simp; omega) (by omega) ?_; intro v1 w1 hown1 hfr1 hat1; simp only [List.nil_append] at hown1)
    go_ret2
    go_light
    exact ⟨v1, rfl, hown1, hfr1.mono fun i hi h => by simp [Value.ownBlock] at h⟩

set_option maxHeartbeats 1000000 in
theorem refPutNumOk {v : Value} {zs : List Int} {w : World} {n : Int} (h : Ints .u8 w v zs) (hz : zs.length ≤ 140737488355000) (h0 : 0 ≤ n) (h1 : n ≤ 4294967295) :
    Calls Try.prog 43 #[v, .int .i64 n] w fun e w' => ∃ v', e = .returned (.tuple #[v', .int .i64 0]) ∧ Own .u8 5 w.heap.size w' v' (zs ++ putS 5 n) ∧ Keeps w w' := by
  go_enter Try.func43, Try.ntmps43
  go_wp2_with (at_builtin; refine wpList_ints rfl (.tmp 7) (.tmp 8) rfl elemB (.slice none 0 0) rfl rfl (Own.nil .u8 5 w.heap.size _) h (by simp; omega) (by omega) ?_; intro v1 w1 hown1 hfr1 hat1; simp only [List.nil_append] at hown1)
  go_loopw [1, 6] (fun nv ov wr => NumRel w.heap.size w zs n nv ov wr) (fun nv _ _ => (intOf nv).toNat)
  case atStart =>
    go_light
    exact ⟨5, n, [], rfl, h0, h1, by show n < 128 ^ 5; omega, rfl, by simpa using hown1, rfl, hfr1.mono fun i hi h => by simp [Value.ownBlock] at h⟩
  case round =>
    obtain ⟨f, m, pre, rfl, hm0, hm1, hf, hl, hown, HS, hk⟩ := hrel
    have hsz := hk.size
    by_cases h128 : 128 ≤ m
    · have hw8 : IntKind.u8.wrap (m % 128 + 128) = m % 128 + 128 := wraps_u8 _ (by omega) (by omega)
      go_wp2_with (at_builtin; refine wpList_int rfl (.tmp 19) (.tmp 24) rfl elemB _ rfl rfl hown (WalkArith.wf_u8 (by omega)) (by simp; omega) (by omega) ?_; intro v2 w2 hown2 hfr2 hat2)
      go_roundw
      all_goals go_light
      case rel => exact num_step h128 hm1 hf hl hown HS hk (Nat.le_refl _) hown2 hfr2
      case measure => simp [intOf]; omega
    · have hw8 : IntKind.u8.wrap m = m := wraps_u8 _ (by omega) (by omega)
      go_wp2_with (at_builtin; refine wpList_int rfl (.tmp 28) (.tmp 31) rfl elemB _ rfl rfl hown (WalkArith.wf_u8 (by omega)) (by simp; omega) (by omega) ?_; intro v2 w2 hown2 hfr2 hat2)
      go_ret2
      go_light
      refine ⟨v2, rfl, ?_, hk.own hown (Nat.le_refl _) hfr2⟩
      rw [← HS.out, putS_last (by omega), ← List.append_assoc]
      exact hown2

set_option maxHeartbeats 1000000 in
theorem refPutNumBad {v : Value} {zs : List Int} {w : World} {n : Int} (h : Ints .u8 w v zs) (hz : zs.length ≤ 140737488355000) (h0 : n < 0 ∨ 4294967295 < n) :
    Calls Try.prog 43 #[v, .int .i64 n] w fun e w' => ∃ v', e = .returned (.tuple #[v', .int .i64 1]) ∧ Own .u8 5 w.heap.size w' v' zs ∧ Keeps w w' := by
  by_cases hn : n < 0
  all_goals
    go_enter Try.func43, Try.ntmps43
    go_wp2_with (at_builtin; refine wpList_ints rfl (.tmp 7) (.tmp 8) rfl elemB (.slice none 0 0) rfl rfl (Own.nil .u8 5 w.heap.size _) h (by simp; omega) (by omega) ?_; intro v1 w1 hown1 hfr1 hat1; simp only [List.nil_append] at hown1)
    go_ret2
    go_light
    exact ⟨v1, rfl, hown1, hfr1.mono fun i hi h => by simp [Value.ownBlock] at h⟩
end Go.Proofs.Ytjdpijjoblfoaaa
