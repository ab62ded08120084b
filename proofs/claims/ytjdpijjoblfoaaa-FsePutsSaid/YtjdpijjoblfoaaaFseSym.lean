/- Are the symbols all of some share? -/
import Derived.Test.YtjdpijjoblfoaaaFseMay
namespace Go.Proofs.Ytjdpijjoblfoaaa
open Go.RowKit

set_option maxRecDepth 100000 in
set_option maxHeartbeats 2000000 in
theorem symFn {v : Value} {zs : List Int} {s : Int} {B : Nat} {w : World} (h : Ints .i64 w v zs) (hB : w.cell? ⟨B, 0, none⟩ = some v) (hs : -9223372036854775808 ≤ s ∧ s ≤ 9223372036854775807) :
    Calls Try.prog 28 #[.int .i64 s, .pointer (some ⟨B, 0, none⟩)] w fun e w' => e = .returned (.bool (!okSym zs s)) ∧ w' = w := by
  obtain ⟨_, a, cap, rfl, hcap, hmax, _, hc⟩ := h
  have HC := Lib.hid hc
  obtain ⟨N, hN⟩ : ∃ N, N = zs.length := ⟨_, rfl⟩
  rw [← hN] at hcap HC hB
  have HN := Lib.hid hN
  obtain ⟨r, hr⟩ : ∃ r, r = !okSym zs s := ⟨_, rfl⟩
  rw [← hr]
  have HR := Lib.hid hr
  clear hc hN hr
  have hor : s < 0 ∨ (0 ≤ s ∧ (N : Int) ≤ s) ∨ (0 ≤ s ∧ s < (N : Int)) := by omega
  rcases hor with h1 | ⟨h1, h2⟩ | ⟨h1, h2⟩
  · have e : Hid (r = true) := by show _ = _; rw [HR.out, okSym, decide_eq_false (fun h => by omega)]; rfl
    go_enter Try.func28, Try.ntmps28
    go_wp2_with fail
    go_ret
    exact ⟨by rw [e.out]; rfl, rfl⟩
  · have e : Hid (r = true) := by show _ = _; rw [HR.out, okSym, decide_eq_false (fun h => by have := HN.out; omega)]; rfl
    have t1 : decide (s < 0) = false := by simp; omega
    go_enter Try.func28, Try.ntmps28
    go_wp2_with fail
    go_ret
    exact ⟨by rw [e.out]; rfl, rfl⟩
  · obtain ⟨k, rfl⟩ : ∃ k : Nat, s = (k : Int) := ⟨s.toNat, by omega⟩
    obtain ⟨b, off, ha, ck⟩ := HC.out k (by omega)
    subst ha
    have e : Hid (r = (zs.getD k 0 == 0)) := by
      show _ = _
      rw [HR.out, okSym]
      have hn := HN.out
      by_cases hz : zs.getD k 0 = 0
      · rw [decide_eq_false (fun h => h.2.2 (by rw [Int.toNat_natCast]; exact hz)), hz]; rfl
      · rw [decide_eq_true ⟨h1, by omega, by rw [Int.toNat_natCast]; exact hz⟩, beq_false_of_ne hz]; rfl
    obtain ⟨y, hy⟩ : ∃ y, y = zs.getD k 0 := ⟨_, rfl⟩
    rw [← hy] at ck e
    have t1 : decide ((k : Int) < 0) = false := decide_eq_false (by omega)
    have t2 : decide ((N : Int) ≤ (k : Int)) = false := by simp; omega
    have t3 : decide (N ≤ k) = false := by simp; omega
    clear hy
    go_enter Try.func28, Try.ntmps28
    go_wp2_with fail
    go_ret
    exact ⟨by rw [e.out]; rfl, rfl⟩

set_option maxRecDepth 100000 in
set_option maxHeartbeats 2000000 in
theorem symIndex {v u : Value} {zs ls : List Int} {B : Nat} {w : World} (h : Ints .i64 w v zs) (hB : w.cell? ⟨B, 0, none⟩ = some v) (hu : Ints .i64 w u ls) :
    Calls Try.prog 45 #[u, .func (.func 28) #[] #[.pointer (some ⟨B, 0, none⟩)]] w fun e w' => ∃ i : Int, e = .returned (.int .i64 i) ∧ decide (0 ≤ i) = (!ls.all (okSym zs)) ∧ w' = w := by
  have HW := Lib.hid hu.1
  have HS : Hid (∀ s : Int, (-9223372036854775808 ≤ s ∧ s ≤ 9223372036854775807) → Calls Try.prog 28 #[.int .i64 s, .pointer (some ⟨B, 0, none⟩)] w fun e w' => e = .returned (.bool (!okSym zs s)) ∧ w' = w) := fun s hs => symFn h hB hs
  obtain ⟨_, a, cap, rfl, hcap, hmax, _, hc⟩ := hu
  have HC := Lib.hid hc
  obtain ⟨N, hN⟩ : ∃ N, N = ls.length := ⟨_, rfl⟩
  rw [← hN] at hcap HC ⊢
  have HN := Lib.hid hN
  clear hc hN h hB
  unfold maxLen at hmax
  go_enter Try.func45, Try.ntmps45
  go_wp2_with fail
  go_loopw [8] (fun iv wr => ∃ k : Nat, k ≤ N ∧ iv = .int .i64 k ∧ (∀ i, i < k → okSym zs (ls.getD i 0) = true) ∧ wr = w) (fun iv _ => N - (intOf iv).toNat)
  case atStart => exact ⟨0, by omega, rfl, fun i hi => by omega, rfl⟩
  case round =>
    obtain ⟨k, hk, rfl, hall, rfl⟩ := hrel
    have HA := Lib.hid hall
    clear hall
    by_cases hlt : k < N
    case pos =>
      obtain ⟨b2, off2, ha2, ck⟩ := HC.out k hlt
      subst ha2
      have hsm := HS.out (ls.getD k 0) (ints_int HW.out (by rw [← HN.out]; exact hlt))
      have HSM := Lib.hid hsm
      have hmm := getD_mem (zs := ls) (k := k) (by rw [← HN.out]; exact hlt)
      have HMM := Lib.hid hmm
      obtain ⟨z, hz⟩ : ∃ z, z = ls.getD k 0 := ⟨_, rfl⟩
      rw [← hz] at ck HSM HMM
      have HZ := Lib.hid hz
      clear hsm hz hmm
      cases hok : okSym zs z with
      | true =>
        rw [hok] at HSM
        have HOK := Lib.hid hok
        clear hok
        go_wp2_with fail
        refine HSM.out.mono ?_
        rintro e w1 ⟨rfl, hw1⟩
        rw [hw1]
        clear hw1
        go_wp2_with fail
        go_roundw
        all_goals go_light
        case rel =>
          refine ⟨k + 1, by omega, by go_num, fun i hi => ?_, trivial⟩
          by_cases he : i = k
          · rw [he, ← HZ.out]; exact HOK.out
          · exact HA.out i (by omega)
        case measure => simp [intOf]; omega
      | false =>
        rw [hok] at HSM
        have HOK := Lib.hid hok
        clear hok
        go_wp2_with fail
        refine HSM.out.mono ?_
        rintro e w1 ⟨rfl, hw1⟩
        rw [hw1]
        clear hw1
        go_wp2_with fail
        go_ret
        go_light
        refine ⟨_, rfl, ?_, rfl⟩
        have : ls.all (okSym zs) = false := by
          rw [Bool.eq_false_iff]
          intro h
          have := List.all_eq_true.1 h z HMM.out
          rw [HOK.out] at this
          cases this
        rw [this]
        simp
    case neg =>
      go_wp2_with fail
      go_ret
      go_light
      refine ⟨_, rfl, ?_, rfl⟩
      have : ls.all (okSym zs) = true := by
        rw [List.all_eq_true]
        intro x hx
        obtain ⟨i, hi, rfl⟩ := mem_getD hx
        exact HA.out i (by have := HN.out; omega)
      rw [this]
      simp

set_option maxHeartbeats 1000000 in
theorem symContains {v u : Value} {zs ls : List Int} {B : Nat} {w : World} (h : Ints .i64 w v zs) (hB : w.cell? ⟨B, 0, none⟩ = some v) (hu : Ints .i64 w u ls) :
    Calls Try.prog 27 #[u, .func (.func 28) #[] #[.pointer (some ⟨B, 0, none⟩)]] w fun e w' => e = .returned (.bool (!ls.all (okSym zs))) ∧ w' = w := by
  have H := Lib.hid (symIndex h hB hu)
  obtain ⟨_, a, cap, rfl, _⟩ := hu
  obtain ⟨r, hr⟩ : ∃ r, r = !ls.all (okSym zs) := ⟨_, rfl⟩
  rw [← hr] at H ⊢
  clear h hB hr
  go_enter Try.func27, Try.ntmps27
  go_wp2_with fail
  refine H.out.mono ?_
  rintro e w1 ⟨i, rfl, hi, hw1⟩
  rw [hw1]
  clear hw1
  have HI := Lib.hid hi
  clear hi
  go_wp2_with fail
  go_ret
  go_light
  exact ⟨by rw [← HI.out]; rfl, rfl⟩
end Go.Proofs.Ytjdpijjoblfoaaa
