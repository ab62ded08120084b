/- huff's may. -/
import Derived.Test.YtbbljpkboojjhaaHfMayS
namespace Go.Proofs.Ytbbljpkboojjhaa
open Go.RowKit

set_option maxRecDepth 100000 in
set_option maxHeartbeats 8000000 in
theorem huffMay {v : Value} {zs : List Int} {w : World} (h : Ints .i64 w v zs) :
    Calls Try.prog 23 #[v] w fun e w' => e = .returned (.bool (decide (HMay zs))) ∧ w' = w := by
  obtain ⟨_, a, cap, rfl, hcap, hmax, _, hc⟩ := h
  have HC := Lib.hid hc
  obtain ⟨N, hN⟩ : ∃ N, N = zs.length := ⟨_, rfl⟩
  rw [← hN] at hcap HC ⊢
  have HN := Lib.hid hN
  obtain ⟨r, hr⟩ : ∃ r, r = decide (HMay zs) := ⟨_, rfl⟩
  rw [← hr]
  have HR := Lib.hid hr
  clear hc hN hr
  have hor : N = 0 ∨ (0 < N ∧ 256 < N) ∨ (0 < N ∧ N ≤ 256) := by omega
  rcases hor with h1 | ⟨h1, h2⟩ | ⟨h1, h2⟩
  · have e : Hid (r = false) := by show _ = _; rw [HR.out]; exact decide_eq_false (fun h => by have := h.1.1; have := HN.out; omega)
    subst h1
    go_enter Try.func23, Try.ntmps23
    go_wp2_with fail
    go_ret
    exact ⟨by rw [e.out]; rfl, rfl⟩
  · have e : Hid (r = false) := by show _ = _; rw [HR.out]; exact decide_eq_false (fun h => by have := h.1.2.1; have := HN.out; omega)
    have t1 : ((N : Int) == 0) = false := by simp; omega
    have t2 : ¬ (N : Int) = 0 := by omega
    have t3 : decide (256 < (N : Int)) = true := decide_eq_true (by omega)
    go_enter Try.func23, Try.ntmps23
    go_wp2_with fail
    go_ret
    exact ⟨by rw [e.out]; rfl, rfl⟩
  · obtain ⟨m, hm⟩ : ∃ m, N = m + 1 := ⟨N - 1, by omega⟩
    subst hm
    obtain ⟨b, off, ha, cl⟩ := HC.out m (by omega)
    subst ha
    obtain ⟨y, hy⟩ : ∃ y, y = zs.getD m 0 := ⟨_, rfl⟩
    rw [← hy] at cl
    have hyl : zs.getD (zs.length - 1) 0 = y := by rw [← HN.out, hy]; rfl
    have HY := Lib.hid hyl
    have t1 : (((m + 1 : Nat) : Int) == 0) = false := by simp; omega
    have t2 : ¬ ((m + 1 : Nat) : Int) = 0 := by omega
    have t3 : decide (256 < ((m + 1 : Nat) : Int)) = false := decide_eq_false (by omega)
    have t4 : ((m + 1 : Nat) : Int) - 1 = (m : Int) := by omega
    have t1' : ((m : Int) + 1 == 0) = false := by simp; omega
    have t3' : decide (256 < (m : Int) + 1) = false := decide_eq_false (by omega)
    have ti0 : (0 : Int) ≤ (m : Int) := by omega
    have ti1 : (m : Int) < ((m + 1 : Nat) : Int) := by omega
    clear hy hyl
    by_cases hy0 : y = 0
    · have e : Hid (r = false) := by show _ = _; rw [HR.out]; exact decide_eq_false (fun h => h.1.2.2 (by rw [HY.out]; exact hy0))
      subst hy0
      go_enter Try.func23, Try.ntmps23
      go_wp2_with fail
      go_ret
      exact ⟨by rw [e.out]; rfl, rfl⟩
    · have t5 : (y == 0) = false := by simp; exact hy0
      have HIN : Hid (0 < zs.length ∧ zs.length ≤ 256 ∧ zs.getD (zs.length - 1) 0 ≠ 0) := by
        refine ⟨by rw [← HN.out]; omega, by rw [← HN.out]; omega, by rw [HY.out]; exact hy0⟩
      go_enter Try.func23, Try.ntmps23
      go_wp2_with fail
      go_loopw [26, 3, 4] (fun iv sv nv wr => ∃ k : Nat, k ≤ m + 1 ∧ iv = .int .i64 k ∧ sv = .int .i64 (kSum zs k) ∧ nv = .int .i64 (kCnt zs k) ∧ (∀ i, i < k → 0 ≤ zs.getD i 0 ∧ zs.getD i 0 ≤ 11) ∧ wr = w) (fun iv _ _ _ => (m + 1) - (intOf iv).toNat)
      case atStart => exact ⟨0, by omega, rfl, rfl, rfl, fun i hi => by omega, rfl⟩
      case round =>
        obtain ⟨k, hk, rfl, rfl, rfl, hall, hwr⟩ := hrel
        rw [hwr]
        clear hwr
        have HA := Lib.hid hall
        have hsb := kSum_bound zs k
        have hcb := kCnt_bound zs k
        have HSN : Hid (kSum zs (k + 1) = kSum zs k + (if 0 < zs.getD k 0 then 2 ^ (11 - (zs.getD k 0).toNat) else 0)) := rfl
        have HCN : Hid (kCnt zs (k + 1) = kCnt zs k + (if 0 < zs.getD k 0 then 1 else 0)) := rfl
        obtain ⟨s, hs⟩ : ∃ s, s = kSum zs k := ⟨_, rfl⟩
        obtain ⟨n, hn⟩ : ∃ n, n = kCnt zs k := ⟨_, rfl⟩
        rw [← hs] at hsb HSN ⊢
        rw [← hn] at hcb HCN ⊢
        have HS := Lib.hid hs
        have HNN := Lib.hid hn
        clear hall hs hn
        by_cases hlt : k < m + 1
        case pos =>
          obtain ⟨b2, off2, ha2, ck⟩ := HC.out k hlt
          cases ha2
          have HNX : Hid (0 ≤ zs.getD k 0 ∧ zs.getD k 0 ≤ 11 → ∀ i, i < k + 1 → 0 ≤ zs.getD i 0 ∧ zs.getD i 0 ≤ 11) := fun h i hi => by
            by_cases e : i = k
            · subst e; exact h
            · exact HA.out i (by omega)
          have HBAD : Hid (¬ (0 ≤ zs.getD k 0 ∧ zs.getD k 0 ≤ 11) → r = false) := fun h => by
            rw [HR.out]
            exact decide_eq_false (fun hh => h (hh.2.1 k (by rw [← HN.out]; exact hlt)))
          obtain ⟨z, hz⟩ : ∃ z, z = zs.getD k 0 := ⟨_, rfl⟩
          rw [← hz] at ck HSN HCN HNX HBAD
          have tk1 : (k : Int) < ((m + 1 : Nat) : Int) := by omega
          clear hz
          have hzo : z < 0 ∨ 11 < z ∨ z = 0 ∨ z = 1 ∨ z = 2 ∨ z = 3 ∨ z = 4 ∨ z = 5 ∨ z = 6 ∨ z = 7 ∨ z = 8 ∨ z = 9 ∨ z = 10 ∨ z = 11 := by omega
          rcases hzo with hz | hz | rfl | hz | hz | hz | hz | hz | hz | hz | hz | hz | hz | hz
          · have e := HBAD.out (by omega)
            have td : decide (z < 0) = true := decide_eq_true hz
            have HE := Lib.hid e
            clear e
            go_wp2_with fail
            go_ret
            go_light
            exact ⟨by rw [HE.out]; rfl, rfl⟩
          · have e := HBAD.out (by omega)
            have td : decide (z < 0) = false := decide_eq_false (by omega)
            have td2 : decide (11 < z) = true := decide_eq_true hz
            have HE := Lib.hid e
            clear e
            go_wp2_with fail
            go_ret
            go_light
            exact ⟨by rw [HE.out]; rfl, rfl⟩
          · go_wp2_with fail
            go_roundw
            all_goals go_light
            case rel => exact ⟨k + 1, by omega, by go_num, by rw [HSN.out]; simp, by rw [HCN.out]; simp, HNX.out (by omega), trivial⟩
            case measure => simp [intOf]; omega
          all_goals
            subst hz
            go_wp2_with fail
            go_roundw
            all_goals go_light
            case rel => exact ⟨k + 1, by omega, by go_num, by rw [HSN.out]; rfl, by rw [HCN.out]; rfl, HNX.out (by omega), trivial⟩
            case measure => simp [intOf]; omega
        case neg =>
          obtain rfl : k = m + 1 := by omega
          have HRE : Hid (r = (s == 2048 || (n == 1 && y == 1))) := by
            show _ = _
            rw [HR.out, HS.out, HNN.out]
            have hlen : m + 1 = zs.length := HN.out
            rw [Bool.eq_iff_iff, decide_eq_true_iff]
            simp only [Bool.or_eq_true, Bool.and_eq_true, beq_iff_eq]
            rw [hlen]
            refine ⟨fun h => ?_, fun h => ⟨HIN.out, fun i hi => HA.out i (by omega), ?_⟩⟩
            · have := h.2.2
              rw [HY.out] at this
              exact this
            · rw [HY.out]; exact h
          by_cases hs2 : s = 2048
          · subst hs2
            have e : Hid (r = true) := by show _ = _; rw [HRE.out]; rfl
            go_wp2_with fail
            go_ret
            go_light
            exact ⟨by rw [e.out]; rfl, rfl⟩
          · have ts : (s == 2048) = false := by simp; exact hs2
            by_cases hn1 : n = 1
            · subst hn1
              have e : Hid (r = (y == 1)) := by show _ = _; rw [HRE.out, ts]; simp
              go_wp2_with fail
              go_ret
              go_light
              exact ⟨by rw [e.out]; rfl, rfl⟩
            · have tn : (n == 1) = false := by simp; exact hn1
              have e : Hid (r = false) := by show _ = _; rw [HRE.out, ts, tn]; rfl
              go_wp2_with fail
              go_ret
              go_light
              exact ⟨by rw [e.out]; rfl, rfl⟩
end Go.Proofs.Ytbbljpkboojjhaa
