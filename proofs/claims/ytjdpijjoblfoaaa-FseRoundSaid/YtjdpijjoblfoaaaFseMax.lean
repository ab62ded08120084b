/- The greatest of a row: Max, Index, greatest; two rows the same. -/
import Derived.Test.YtjdpijjoblfoaaaFseMay
import Derived.BigQuiet
namespace Go.Proofs.Ytjdpijjoblfoaaa
open Go.RowKit

/-- the first place of the greatest among the first k -/
def greK (l : List Int) : Nat → Nat
  | 0 => 0
  | k + 1 => if l.getD (greK l k) 0 < l.getD k 0 then k else greK l k
def gre (l : List Int) : Nat := greK l l.length
theorem greK_lt (l : List Int) : ∀ k, 0 < k → greK l k < k
  | 0, h => by omega
  | k + 1, _ => by
    simp only [greK]
    split
    · omega
    · rcases Nat.eq_zero_or_pos k with h | h
      · subst h; simp [greK]
      · have := greK_lt l k h; omega
theorem greK_max (l : List Int) : ∀ k i, i < k → l.getD i 0 ≤ l.getD (greK l k) 0
  | 0, i, h => by omega
  | k + 1, i, h => by
    simp only [greK]
    split
    case isTrue hh =>
      by_cases e : i = k
      · subst e; exact Int.le_refl _
      · have := greK_max l k i (by omega); omega
    case isFalse hh =>
      by_cases e : i = k
      · subst e; omega
      · exact greK_max l k i (by omega)
theorem greK_first (l : List Int) : ∀ k i, i < greK l k → l.getD i 0 < l.getD (greK l k) 0
  | 0, i, h => by simp [greK] at h
  | k + 1, i, h => by
    simp only [greK] at h ⊢
    split at h
    case isTrue hh =>
      rw [if_pos hh]
      have := greK_max l k i h
      omega
    case isFalse hh =>
      rw [if_neg hh]
      exact greK_first l k i h

set_option maxRecDepth 100000 in
set_option maxHeartbeats 1000000 in
theorem maxInts {v : Value} {zs : List Int} {w : World} (h : Ints .i64 w v zs) (h0 : 0 < zs.length) :
    Calls Try.prog 24 #[v] w fun e w' => e = .returned (.int .i64 (zs.getD (gre zs) 0)) ∧ w' = w := by
  obtain ⟨hwf, a, cap, rfl, hcap, hmax, _, hc⟩ := h
  have HW := Lib.hid hwf
  have HC := Lib.hid hc
  obtain ⟨N, hN⟩ : ∃ N, N = zs.length := ⟨_, rfl⟩
  obtain ⟨r, hr⟩ : ∃ r, r = zs.getD (gre zs) 0 := ⟨_, rfl⟩
  rw [← hr]
  have HR := Lib.hid hr
  rw [← hN] at hcap HC h0 ⊢
  have HN := Lib.hid hN
  obtain ⟨b, off, ha, c0⟩ := HC.out 0 h0
  subst ha
  rw [Nat.add_zero] at c0
  have hN1 : (1 : Int) ≤ (N : Int) := by omega
  have hN2 : decide ((N : Int) < 1) = false := decide_eq_false (by omega)
  unfold maxLen at hmax
  clear hc hN hwf hr
  go_enter Try.func24, Try.ntmps24
  go_wp2_with fail
  go_loopw [4, 3] (fun iv mv wr => ∃ k : Nat, 1 ≤ k ∧ k ≤ N ∧ iv = .int .i64 k ∧ mv = .int .i64 (zs.getD (greK zs k) 0) ∧ wr = w) (fun iv _ _ => N - (intOf iv).toNat)
  case atStart => exact ⟨1, by omega, by omega, rfl, by simp [greK], rfl⟩
  case round =>
    obtain ⟨k, hk1, hk, rfl, rfl, rfl⟩ := hrel
    have HG : Hid (zs.getD (greK zs (k + 1)) 0 = max (zs.getD (greK zs k) 0) (zs.getD k 0)) := by
      show _ = _
      simp only [greK]
      split <;> omega
    obtain ⟨m, hm⟩ : ∃ m, m = zs.getD (greK zs k) 0 := ⟨_, rfl⟩
    rw [← hm] at HG ⊢
    have HM := Lib.hid hm
    clear hm
    by_cases hlt : k < N
    case pos =>
      obtain ⟨b2, off2, ha2, ck⟩ := HC.out k hlt
      cases ha2
      obtain ⟨z, hz⟩ : ∃ z, z = zs.getD k 0 := ⟨_, rfl⟩
      rw [← hz] at ck HG
      clear hz
      go_wp2_with fail
      go_roundw
      all_goals go_light
      case rel => exact ⟨k + 1, by omega, by omega, by go_num, by rw [HG.out], trivial⟩
      case measure => simp [intOf]; omega
    case neg =>
      obtain rfl : k = N := by omega
      go_wp2_with fail
      go_ret
      go_light
      refine ⟨?_, rfl⟩
      have : r = m := by rw [HR.out, HM.out, gre, ← HN.out]
      rw [this]
      rfl

set_option maxRecDepth 100000 in
set_option maxHeartbeats 1000000 in
theorem indexInts {v : Value} {zs : List Int} {x : Int} {g : Nat} {w : World} (h : Ints .i64 w v zs) (hg : g < zs.length) (hx : zs.getD g 0 = x) (hf : ∀ i, i < g → zs.getD i 0 ≠ x) :
    Calls Try.prog 23 #[v, .int .i64 x] w fun e w' => e = .returned (.int .i64 g) ∧ w' = w := by
  obtain ⟨hwf, a, cap, rfl, hcap, hmax, _, hc⟩ := h
  have HC := Lib.hid hc
  obtain ⟨N, hN⟩ : ∃ N, N = zs.length := ⟨_, rfl⟩
  rw [← hN] at hcap HC hg ⊢
  have HX := Lib.hid hx
  have HF := Lib.hid hf
  unfold maxLen at hmax
  clear hc hN hwf hx hf
  go_enter Try.func23, Try.ntmps23
  go_wp2_with fail
  go_loopw [8] (fun iv wr => ∃ k : Nat, k ≤ g ∧ iv = .int .i64 k ∧ wr = w) (fun iv _ => N - (intOf iv).toNat)
  case atStart => exact ⟨0, by omega, rfl, rfl⟩
  case round =>
    obtain ⟨k, hk, rfl, rfl⟩ := hrel
    obtain ⟨b2, off2, ha2, ck⟩ := HC.out k (by omega)
    subst ha2
    have hkN : (k : Int) < (N : Int) := by omega
    by_cases hlt : k < g
    case pos =>
      have hne := HF.out k hlt
      obtain ⟨z, hz⟩ : ∃ z, z = zs.getD k 0 := ⟨_, rfl⟩
      rw [← hz] at ck hne
      have hb : (x == z) = false := by simp; exact fun e => hne e.symm
      clear hz
      go_wp2_with fail
      go_roundw
      all_goals go_light
      case rel => exact ⟨k + 1, by omega, by go_num, trivial⟩
      case measure => simp [intOf]; omega
    case neg =>
      obtain rfl : k = g := by omega
      rw [HX.out] at ck
      go_wp2_with fail
      go_ret
      go_light
      exact ⟨rfl, rfl⟩

theorem gre_index {v : Value} {zs : List Int} {w : World} (h : Ints .i64 w v zs) (h0 : 0 < zs.length) :
    Calls Try.prog 23 #[v, .int .i64 (zs.getD (gre zs) 0)] w fun e w' => e = .returned (.int .i64 (gre zs : Nat)) ∧ w' = w :=
  indexInts h (greK_lt zs _ h0) rfl (fun i hi => by have := greK_first zs _ i hi; unfold gre; omega)

set_option maxHeartbeats 1000000 in
theorem towardOf {a b : Int} {w : World} : Calls Try.prog 22 #[.int .i64 a, .int .i64 b] w fun e w' => e = .returned (.int .i64 (if b < a then -1 else 1)) ∧ w' = w := by
  by_cases h : b < a
  · go_enter Try.func22, Try.ntmps22
    go_wp2_with fail
    go_ret
    exact ⟨rfl, rfl⟩
  · have h1 : decide (b < a) = false := decide_eq_false h
    go_enter Try.func22, Try.ntmps22
    go_wp2_with fail
    go_ret
    exact ⟨rfl, rfl⟩

set_option maxRecDepth 100000 in
set_option maxHeartbeats 1000000 in
theorem refGreatest {v : Value} {zs : List Int} {w : World} (h : Ints .i64 w v zs) (h0 : 0 < zs.length) :
    Calls Try.prog 25 #[v] w fun e w' => e = .returned (.int .i64 (gre zs : Nat)) ∧ Keeps w w' := by
  obtain ⟨hwf, a, cap, rfl, hcap, hmax, _, hc⟩ := h
  have HC := Lib.hid hc
  obtain ⟨N, hN⟩ : ∃ N, N = zs.length := ⟨_, rfl⟩
  have HGR : Hid (gre zs = greK zs N) := by show _ = _; rw [gre, hN]
  rw [HGR.out]
  rw [← hN] at hcap HC h0 ⊢
  obtain ⟨b, off, ha, c0⟩ := HC.out 0 h0
  subst ha
  unfold maxLen at hmax
  clear hc hN hwf
  go_enter Try.func25, Try.ntmps25
  go_wp2_with fail
  go_loopw [4, 3] (fun iv mv wr => ∃ k : Nat, 1 ≤ k ∧ k ≤ N ∧ iv = .int .i64 k ∧ mv = .int .i64 (greK zs k : Nat) ∧ ∃ m, wr = w.drewN m) (fun iv _ _ => N - (intOf iv).toNat)
  case atStart => exact ⟨1, by omega, by omega, rfl, by simp [greK], 0, rfl⟩
  case round =>
    obtain ⟨k, hk1, hk, rfl, rfl, m, rfl⟩ := hrel
    have HG : Hid (greK zs (k + 1) = if zs.getD (greK zs k) 0 < zs.getD k 0 then k else greK zs k) := rfl
    have hgl := greK_lt zs k (by omega)
    obtain ⟨g, hg⟩ : ∃ g, g = greK zs k := ⟨_, rfl⟩
    rw [← hg] at HG hgl ⊢
    have HGE := Lib.hid hg
    clear hg
    by_cases hlt : k < N
    case pos =>
      obtain ⟨b2, off2, ha2, ck⟩ := HC.out k hlt
      cases ha2
      obtain ⟨b3, off3, ha3, cg⟩ := HC.out g (by omega)
      cases ha3
      obtain ⟨z, hz⟩ : ∃ z, z = zs.getD k 0 := ⟨_, rfl⟩
      obtain ⟨y, hy⟩ : ∃ y, y = zs.getD g 0 := ⟨_, rfl⟩
      rw [← hz] at ck HG
      rw [← hy] at cg HG
      have t1 : (0 : Int) ≤ (k : Int) := by omega
      have t2 : (k : Int) < (N : Int) := by omega
      have t3 : (0 : Int) ≤ (g : Int) := by omega
      have t4 : (g : Int) < (N : Int) := by omega
      clear hz hy
      by_cases hzy : y < z
      · rw [if_pos hzy] at HG
        go_wp2_with fail
        go_quiet (fail)
        go_wp2_with fail
        go_roundw
        all_goals go_light
        case rel => exact ⟨k + 1, by omega, by omega, by go_num, by rw [HG.out], _, rfl⟩
        case measure => simp [intOf]; omega
      · rw [if_neg hzy] at HG
        have t5 : decide (y < z) = false := decide_eq_false hzy
        go_wp2_with fail
        go_quiet (fail)
        go_wp2_with fail
        go_roundw
        all_goals go_light
        case rel => exact ⟨k + 1, by omega, by omega, by go_num, by rw [HG.out], _, rfl⟩
        case measure => simp [intOf]; omega
    case neg =>
      obtain rfl : k = N := by omega
      go_wp2_with fail
      go_ret
      go_light
      exact ⟨by rw [← HGE.out]; rfl, (Fr.refl _ _).drewN _⟩
end Go.Proofs.Ytjdpijjoblfoaaa
