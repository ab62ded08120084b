/- May a share be? -/
import Derived.Test.YtjdpijjoblfoaaaFseS
import Derived.Test.YtjdpijjoblfoaaaElems
import Derived.BigQuiet
namespace Go.Proofs.Ytjdpijjoblfoaaa
open Go.RowKit

theorem sum_take (zs : List Int) {k : Nat} (h : k < zs.length) : (zs.take (k + 1)).sum = (zs.take k).sum + zs.getD k 0 := by
  rw [List.take_add_one, List.getElem?_eq_getElem h, List.sum_append, List.getD_eq_getElem?_getD, List.getElem?_eq_getElem h]
  simp
theorem sum_nonneg : ∀ {zs : List Int}, (∀ z ∈ zs, 0 ≤ z) → 0 ≤ zs.sum
  | [], _ => by simp
  | z :: zs, h => by
    have h1 := h z (by simp)
    have h2 := sum_nonneg (zs := zs) (fun x hx => h x (List.mem_cons_of_mem _ hx))
    rw [List.sum_cons]; omega
theorem sum_ge : ∀ {zs : List Int}, (∀ z ∈ zs, 0 ≤ z) → ∀ {i : Nat}, zs.getD i 0 ≤ zs.sum
  | [], _, i => by simp
  | z :: zs, h, 0 => by
    have h2 := sum_nonneg (zs := zs) (fun x hx => h x (List.mem_cons_of_mem _ hx))
    rw [List.sum_cons]; simp; omega
  | z :: zs, h, i + 1 => by
    have h1 := h z (by simp)
    have h2 := sum_ge (zs := zs) (fun x hx => h x (List.mem_cons_of_mem _ hx)) (i := i)
    rw [List.sum_cons]; simp only [List.getD_cons_succ]; omega
theorem getD_mem {zs : List Int} {k : Nat} (h : k < zs.length) : zs.getD k 0 ∈ zs := by
  rw [List.getD_eq_getElem?_getD, List.getElem?_eq_getElem h]
  exact List.getElem_mem h
theorem mem_getD {zs : List Int} {z : Int} (h : z ∈ zs) : ∃ k, k < zs.length ∧ zs.getD k 0 = z := by
  obtain ⟨k, hk, e⟩ := List.getElem_of_mem h
  exact ⟨k, hk, by rw [List.getD_eq_getElem?_getD, List.getElem?_eq_getElem hk]; simpa using e⟩

theorem pow_log {log : Int} (h : 5 ≤ log ∧ log ≤ 9) : 32 ≤ (2 : Int) ^ log.toNat ∧ (2 : Int) ^ log.toNat ≤ 512 := by
  have : log = 5 ∨ log = 6 ∨ log = 7 ∨ log = 8 ∨ log = 9 := by omega
  rcases this with rfl | rfl | rfl | rfl | rfl <;> decide

set_option maxRecDepth 100000 in
set_option maxHeartbeats 2000000 in
theorem fseMay {v : Value} {zs : List Int} {log : Int} {w : World} (h : Ints .i64 w v zs) (hw : -9223372036854775808 ≤ log ∧ log ≤ 9223372036854775807) :
    Calls Try.prog 26 #[v, .int .i64 log] w fun e w' => e = .returned (.bool (decide (ShMay zs log))) ∧ w' = w := by
  obtain ⟨_, a, cap, rfl, hcap, hmax, _, hc⟩ := h
  have HC := Lib.hid hc
  obtain ⟨N, hN⟩ : ∃ N, N = zs.length := ⟨_, rfl⟩
  rw [← hN] at hcap HC ⊢
  have HN := Lib.hid hN
  obtain ⟨r, hr⟩ : ∃ r, r = decide (ShMay zs log) := ⟨_, rfl⟩
  rw [← hr]
  have HR := Lib.hid hr
  clear hc hN hr
  have hor : log < 5 ∨ (5 ≤ log ∧ 9 < log) ∨ (5 ≤ log ∧ log ≤ 9 ∧ N ≤ 0) ∨ (5 ≤ log ∧ log ≤ 9 ∧ 64 < N) ∨ (5 ≤ log ∧ log ≤ 9 ∧ 0 < N ∧ N ≤ 64) := by omega
  rcases hor with h1 | ⟨h1, h2⟩ | ⟨h1, h2, h3⟩ | ⟨h1, h2, h3⟩ | ⟨h1, h2, h3, h4⟩
  · have e : Hid (r = false) := by show _ = _; rw [HR.out]; exact decide_eq_false (fun h => by have := h.1; omega)
    go_enter Try.func26, Try.ntmps26
    go_wp2_with fail
    go_ret
    exact ⟨by rw [e.out]; rfl, rfl⟩
  · have e : Hid (r = false) := by show _ = _; rw [HR.out]; exact decide_eq_false (fun h => by have := h.2.1; omega)
    have t1 : decide (log < 5) = false := by simp; omega
    go_enter Try.func26, Try.ntmps26
    go_wp2_with fail
    go_ret
    exact ⟨by rw [e.out]; rfl, rfl⟩
  · have e : Hid (r = false) := by show _ = _; rw [HR.out]; exact decide_eq_false (fun h => by have := h.2.2.1; have := HN.out; omega)
    have t1 : decide (log < 5) = false := by simp; omega
    have t2 : decide (9 < log) = false := by simp; omega
    obtain rfl : N = 0 := by omega
    go_enter Try.func26, Try.ntmps26
    go_wp2_with fail
    go_ret
    exact ⟨by rw [e.out]; rfl, rfl⟩
  · have e : Hid (r = false) := by show _ = _; rw [HR.out]; exact decide_eq_false (fun h => by have := h.2.2.2.1; have := HN.out; omega)
    have t1 : decide (log < 5) = false := by simp; omega
    have t2 : decide (9 < log) = false := by simp; omega
    have t3 : ((N : Int) == 0) = false := by simp; omega
    go_enter Try.func26, Try.ntmps26
    go_wp2_with fail
    go_ret
    exact ⟨by rw [e.out]; rfl, rfl⟩
  · have t1 : decide (log < 5) = false := by simp; omega
    have t2 : decide (9 < log) = false := by simp; omega
    have t3 : ((N : Int) == 0) = false := by simp; omega
    have t4 : decide (64 < (N : Int)) = false := by simp; omega
    obtain ⟨b, off, ha, cl⟩ := HC.out (N - 1) (by omega)
    subst ha
    have t5 : (0 : Int) ≤ (N : Int) - 1 := by omega
    have t6 : (N : Int) - 1 < (N : Int) := by omega
    by_cases h0 : zs.getD (N - 1) 0 = 0
    · have e : Hid (r = false) := by show _ = _; rw [HR.out]; exact decide_eq_false (fun h => h.2.2.2.2.1 (by rw [← HN.out]; exact h0))
      rw [h0] at cl
      clear h0
      go_enter Try.func26, Try.ntmps26
      go_wp2_with fail
      go_ret
      exact ⟨by rw [e.out]; rfl, rfl⟩
    · have H0 := Lib.hid h0
      obtain ⟨y, hy⟩ : ∃ y, y = zs.getD (N - 1) 0 := ⟨_, rfl⟩
      rw [← hy] at cl h0
      have hyb : (y == 0) = false := by simpa using h0
      clear hy h0
      go_enter Try.func26, Try.ntmps26
      go_wp2_with fail
      go_loopw [5, 35] (fun sv iv wr => ∃ k : Nat, k ≤ N ∧ iv = .int .i64 k ∧ sv = .int .i64 (zs.take k).sum ∧ (∀ i, i < k → 0 ≤ zs.getD i 0 ∧ zs.getD i 0 ≤ 2 ^ log.toNat) ∧ 0 ≤ (zs.take k).sum ∧ (zs.take k).sum ≤ 512 * (k : Int) ∧ wr = w) (fun _ iv _ => N - (intOf iv).toNat)
      case atStart => exact ⟨0, by omega, rfl, by simp, fun i hi => by omega, by simp, by simp, rfl⟩
      case round =>
        obtain ⟨k, hk, rfl, rfl, hall, hs0, hs1, rfl⟩ := hrel
        have HA := Lib.hid hall
        have HS := Lib.hid (sum_take zs (k := k))
        obtain ⟨s, hs⟩ : ∃ s, s = (zs.take k).sum := ⟨_, rfl⟩
        rw [← hs] at hs0 hs1 HS ⊢
        have HSE := Lib.hid hs
        have hpl := pow_log ⟨h1, h2⟩
        clear hall hs
        by_cases hlt : k < N
        case pos =>
          obtain ⟨b2, off2, ha2, ck⟩ := HC.out k hlt
          cases ha2
          obtain ⟨z, hz⟩ : ∃ z, z = zs.getD k 0 := ⟨_, rfl⟩
          rw [← hz] at ck HS
          have HZ := Lib.hid hz
          have t7 : (0 : Int) ≤ (k : Int) := by omega
          have t8 : (k : Int) < (N : Int) := by omega
          clear hz
          have hz3 : z < 0 ∨ (0 ≤ z ∧ 2 ^ log.toNat < z) ∨ (0 ≤ z ∧ z ≤ 2 ^ log.toNat) := by omega
          rcases hz3 with hz1 | ⟨hz1, hz2⟩ | ⟨hz1, hz2⟩
          · have e : Hid (r = false) := by show _ = _; rw [HR.out]; exact decide_eq_false (fun h => by
              have := h.2.2.2.2.2.1 _ (getD_mem (k := k) (by rw [← HN.out]; exact hlt))
              rw [← HZ.out] at this; omega)
            go_wp2_with fail
            go_ret
            go_light
            exact ⟨by rw [e.out]; rfl, rfl⟩
          · have e : Hid (r = false) := by show _ = _; rw [HR.out]; exact decide_eq_false (fun h => by
              have g1 := sum_ge h.2.2.2.2.2.1 (i := k)
              have g2 := h.2.2.2.2.2.2
              rw [← HZ.out] at g1; omega)
            go_wp2_with fail
            all_goals go_ret
            all_goals go_light
            all_goals exact ⟨by rw [e.out]; rfl, rfl⟩
          · go_wp2_with fail
            go_roundw
            all_goals go_light
            case rel =>
              have g := HS.out (by rw [← HN.out]; exact hlt)
              refine ⟨k + 1, by omega, by go_num, by rw [g], fun i hi => ?_, by rw [g]; omega, by rw [g]; omega, trivial⟩
              by_cases he : i = k
              · rw [he, ← HZ.out]; exact ⟨hz1, hz2⟩
              · exact HA.out i (by omega)
            case measure => simp [intOf]; omega
        case neg =>
          obtain rfl : k = N := by omega
          have e : Hid (r = decide (s = 2 ^ log.toNat)) := by
            show _ = _
            rw [HR.out, HSE.out, HN.out, List.take_length]
            have hn := HN.out
            refine decide_eq_decide.2 ⟨fun h => h.2.2.2.2.2.2, fun h => ⟨h1, h2, by omega, by omega, by rw [← hn]; exact H0.out, fun z hz => ?_, h⟩⟩
            obtain ⟨i, hi, rfl⟩ := mem_getD hz
            exact (HA.out i (by omega)).1
          go_wp2_with fail
          go_ret
          go_light
          exact ⟨by rw [e.out]; rfl, rfl⟩
end Go.Proofs.Ytjdpijjoblfoaaa
