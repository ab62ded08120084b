/- fse's Share. -/
import Derived.Test.YtjdpijjoblfoaaaShareS
import Derived.Test.YtjdpijjoblfoaaaZeros
import Derived.Test.YtjdpijjoblfoaaaFseP
import Derived.Deep.RegionWith
namespace Go.Proofs.Ytjdpijjoblfoaaa
open Go.RowKit

theorem sum_bound {l : List Int} (h : ∀ i, i < l.length → ¬ CtBad (l.getD i 0)) : 0 ≤ l.sum ∧ l.sum ≤ 4294967295 * (l.length : Int) := by
  induction l with
  | nil => simp
  | cons x l ih =>
    have h0 := h 0 (by simp)
    have h1 := ih (fun i hi => by have := h (i + 1) (by simpa using hi); simpa using this)
    unfold CtBad at h0
    simp only [List.getD_cons_zero] at h0
    rw [List.sum_cons, List.length_cons]
    omega
theorem sh0_bound {S all c : Int} (hS : 1 ≤ S) (_h : ¬ CtBad c) (hc : c ≤ all) : 0 ≤ sh0 S all c ∧ sh0 S all c ≤ S := by
  unfold sh0
  split
  case isTrue h0 =>
    have h1 : c * S / all ≤ S := by
      have h2 : c * S ≤ S * all := by rw [Int.mul_comm]; exact Int.mul_le_mul_of_nonneg_left hc (by omega)
      exact Int.ediv_le_of_le_mul (by omega) h2
    have h3 : 0 ≤ c * S / all := Int.ediv_nonneg (Int.mul_nonneg (by omega) (by omega)) (by omega)
    omega
  case isFalse => omega
theorem le_sum {l : List Int} (h : ∀ i, i < l.length → ¬ CtBad (l.getD i 0)) {i : Nat} : l.getD i 0 ≤ l.sum :=
  sum_ge (fun z hz => by
    obtain ⟨k, hk, rfl⟩ := mem_getD hz
    have := h k hk
    unfold CtBad at this
    omega)
theorem out0_bound {S : Int} {l : List Int} (hS : 1 ≤ S) (h : ∀ i, i < l.length → ¬ CtBad (l.getD i 0)) {k : Nat} : ∀ z ∈ out0 S l.sum l k, 0 ≤ z ∧ z ≤ S := by
  intro z hz
  unfold out0 at hz
  obtain ⟨c, hc, rfl⟩ := List.mem_map.1 hz
  obtain ⟨i, hi, rfl⟩ := mem_getD (List.mem_of_mem_take hc)
  exact sh0_bound hS (h i hi) (le_sum h)
theorem sum_le_len {l : List Int} {S : Int} (h : ∀ z ∈ l, 0 ≤ z ∧ z ≤ S) : 0 ≤ l.sum ∧ l.sum ≤ S * (l.length : Int) := by
  induction l with
  | nil => simp
  | cons x l ih =>
    have h0 := h x (by simp)
    have h1 := ih (fun z hz => h z (List.mem_cons_of_mem _ hz))
    rw [List.sum_cons, List.length_cons, show ((l.length + 1 : Nat) : Int) = (l.length : Int) + 1 by omega, Int.mul_add]
    omega

set_option maxRecDepth 100000 in
set_option maxHeartbeats 4000000 in
theorem fseShare {v : Value} {cs : List Int} {log : Int} {w : World} (h : Ints .i64 w v cs) (hw : -9223372036854775808 ≤ log ∧ log ≤ 9223372036854775807) :
    Calls Try.prog 9 #[v, .int .i64 log] w fun e w' => ∃ x, e = .returned (.tuple #[x, .int .i64 (shareS cs log).2]) ∧ Own .i64 3 w.heap.size w' x (shareS cs log).1 ∧ Keeps w w' := by
  have HV := Lib.hid h
  obtain ⟨_, a, cap, rfl, hcap, hmax, _, hc⟩ := h
  have HC := Lib.hid hc
  obtain ⟨N, hN⟩ : ∃ N, N = cs.length := ⟨_, rfl⟩
  rw [← hN] at hcap HC HV ⊢
  have HN := Lib.hid hN
  obtain ⟨r, hr⟩ : ∃ r, r = shareS cs log := ⟨_, rfl⟩
  rw [← hr]
  have HR := Lib.hid hr
  unfold maxLen at hmax
  clear hc hN hr
  have hor : log < 5 ∨ (5 ≤ log ∧ 9 < log) ∨ (5 ≤ log ∧ log ≤ 9 ∧ 64 < N) ∨ (5 ≤ log ∧ log ≤ 9 ∧ N ≤ 64) := by omega
  rcases hor with h1 | ⟨h1, h2⟩ | ⟨h1, h2, h3⟩ | ⟨h1, h2, h3⟩
  · have e : Hid (r = ([], 1)) := by show _ = _; rw [HR.out, shareS, if_pos (.inl h1)]
    go_enter Try.func9, Try.ntmps9
    go_wp2_with fail
    go_ret2
    exact ⟨_, by rw [e.out]; rfl, by rw [e.out]; exact Own.nil _ _ _ _, Fr.refl _ _⟩
  · have e : Hid (r = ([], 1)) := by show _ = _; rw [HR.out, shareS, if_pos (.inr (.inl h2))]
    have t1 : decide (log < 5) = false := decide_eq_false (by omega)
    go_enter Try.func9, Try.ntmps9
    go_wp2_with fail
    go_ret2
    exact ⟨_, by rw [e.out]; rfl, by rw [e.out]; exact Own.nil _ _ _ _, Fr.refl _ _⟩
  · have e : Hid (r = ([], 1)) := by show _ = _; rw [HR.out, shareS, if_pos (.inr (.inr (.inl (by rw [← HN.out]; exact h3))))]
    have t1 : decide (log < 5) = false := decide_eq_false (by omega)
    have t2 : decide (9 < log) = false := decide_eq_false (by omega)
    go_enter Try.func9, Try.ntmps9
    go_wp2_with fail
    go_ret2
    exact ⟨_, by rw [e.out]; rfl, by rw [e.out]; exact Own.nil _ _ _ _, Fr.refl _ _⟩
  have t1 : decide (log < 5) = false := decide_eq_false (by omega)
  have t2 : decide (9 < log) = false := decide_eq_false (by omega)
  have t3 : decide (64 < (N : Int)) = false := decide_eq_false (by omega)
  have t4 : decide (64 < N) = false := decide_eq_false (by omega)
  obtain ⟨S, hS⟩ : ∃ S : Nat, S = 2 ^ log.toNat := ⟨_, rfl⟩
  have hS5 : 32 ≤ S ∧ S ≤ 512 := by rw [hS]; exact pow_logN ⟨h1, h2⟩
  have hSe : S = 32 ∨ S = 64 ∨ S = 128 ∨ S = 256 ∨ S = 512 := by rw [hS]; exact size_log ⟨h1, h2⟩
  have hSi : (2 : Int) ^ log.toNat = (S : Int) := by rw [hS]; simp
  have HS := Lib.hid hS
  clear hS
  go_enter Try.func9, Try.ntmps9
  go_wp2_with fail
  clear hSi
  go_loopw [30, 7, 8] (fun iv av sv wr => ∃ k : Nat, k ≤ N ∧ iv = .int .i64 k ∧ av = .int .i64 (cs.take k).sum ∧ sv = .int .i64 (posN (cs.take k) : Nat) ∧ (∀ i, i < k → ¬ CtBad (cs.getD i 0)) ∧ 0 ≤ (cs.take k).sum ∧ (cs.take k).sum ≤ 4294967295 * (k : Int) ∧ posN (cs.take k) ≤ k ∧ wr = w) (fun iv _ _ _ => N - (intOf iv).toNat)
  case atStart => exact ⟨0, by omega, rfl, rfl, rfl, fun i hi => by omega, by simp, by simp, by simp [posN], rfl⟩
  case round =>
    obtain ⟨k, hk, rfl, rfl, rfl, hall, hs0, hs1, hp1, hww⟩ := hrel
    rw [hww]
    clear hww
    have HA := Lib.hid hall
    have HST := Lib.hid (fun h => sum_take cs (k := k) h)
    have HPT := Lib.hid (fun h => posN_take cs (k := k) h)
    obtain ⟨s, hs⟩ : ∃ s, s = (cs.take k).sum := ⟨_, rfl⟩
    obtain ⟨q, hq⟩ : ∃ q, q = posN (cs.take k) := ⟨_, rfl⟩
    rw [← hs] at hs0 hs1 HST ⊢
    rw [← hq] at hp1 HPT ⊢
    have HSE := Lib.hid hs
    have HQE := Lib.hid hq
    clear hall hs hq
    by_cases hlt : k < N
    case pos =>
      obtain ⟨b, off, ha, ck⟩ := HC.out k hlt
      subst ha
      obtain ⟨z, hz⟩ : ∃ z, z = cs.getD k 0 := ⟨_, rfl⟩
      rw [← hz] at ck HST HPT
      have HZ := Lib.hid hz
      clear hz
      have hz3 : z < 0 ∨ (0 ≤ z ∧ 4294967295 < z) ∨ (0 ≤ z ∧ z ≤ 4294967295) := by omega
      rcases hz3 with hz1 | ⟨hz1, hz2⟩ | ⟨hz1, hz2⟩
      · have e : Hid (r = ([], 1)) := by show _ = _; rw [HR.out, shareS, if_pos (.inr (.inr (.inr (.inl ⟨z, by rw [HZ.out]; exact getD_mem (by rw [← HN.out]; exact hlt), .inl hz1⟩))))]
        go_wp2_with fail
        go_ret2
        go_light
        exact ⟨_, by rw [e.out]; rfl, by rw [e.out]; exact Own.nil _ _ _ _, Fr.refl _ _⟩
      · have e : Hid (r = ([], 1)) := by show _ = _; rw [HR.out, shareS, if_pos (.inr (.inr (.inr (.inl ⟨z, by rw [HZ.out]; exact getD_mem (by rw [← HN.out]; exact hlt), .inr hz2⟩))))]
        have t5 : decide (z < 0) = false := decide_eq_false (by omega)
        go_wp2_with fail
        go_ret2
        go_light
        exact ⟨_, by rw [e.out]; rfl, by rw [e.out]; exact Own.nil _ _ _ _, Fr.refl _ _⟩
      · have t5 : decide (z < 0) = false := decide_eq_false (by omega)
        have t6 : decide (4294967295 < z) = false := decide_eq_false (by omega)
        have HBD : Hid (∀ i, i < k + 1 → ¬ CtBad (cs.getD i 0)) := fun i hi => by
          by_cases e : i = k
          · rw [e, ← HZ.out]; unfold CtBad; omega
          · exact HA.out i (by omega)
        by_cases hz0 : 0 < z
        · go_wp2_with fail
          go_roundw
          all_goals go_light
          case rel =>
            have g1 := HST.out (by rw [← HN.out]; exact hlt)
            have g2 := HPT.out (by rw [← HN.out]; exact hlt)
            rw [if_pos hz0] at g2
            exact ⟨k + 1, by omega, by go_num, by rw [g1], by rw [g2]; go_num, HBD.out, by rw [g1]; omega, by rw [g1]; omega, by rw [g2]; omega, trivial⟩
          case measure => simp [intOf]; omega
        · have t7 : decide (0 < z) = false := decide_eq_false hz0
          go_wp2_with fail
          go_roundw
          all_goals go_light
          case rel =>
            have g1 := HST.out (by rw [← HN.out]; exact hlt)
            have g2 := HPT.out (by rw [← HN.out]; exact hlt)
            rw [if_neg hz0] at g2
            exact ⟨k + 1, by omega, by go_num, by rw [g1], by rw [g2]; go_num, HBD.out, by rw [g1]; omega, by rw [g1]; omega, by rw [g2]; omega, trivial⟩
          case measure => simp [intOf]; omega
    case neg =>
      obtain rfl : k = N := by omega
      have hse : s = cs.sum := by rw [HSE.out, HN.out, List.take_length]
      have hqe : q = posN cs := by rw [HQE.out, HN.out, List.take_length]
      have HB : Hid (∀ i, i < cs.length → ¬ CtBad (cs.getD i 0)) := by show ∀ i, i < cs.length → _; rw [← HN.out]; exact HA.out
      by_cases hq0 : q = 0
      case pos =>
        have e : Hid (r = ([], 1)) := by show _ = _; rw [HR.out, shareS, if_pos (.inr (.inr (.inr (.inr (.inl (by rw [← hqe]; exact hq0))))))]
        subst hq0
        clear hse hqe
        go_wp2_with fail
        go_ret2
        go_light
        exact ⟨_, by rw [e.out]; rfl, by rw [e.out]; exact Own.nil _ _ _ _, Fr.refl _ _⟩
      case neg =>
      have t8 : ((q : Int) == 0) = false := by simp; omega
      by_cases hq2 : S < 2 * q
      case pos =>
        have e : Hid (r = ([], 1)) := by show _ = _; rw [HR.out, shareS, if_pos (.inr (.inr (.inr (.inr (.inr (by rw [← hqe, ← HS.out]; exact hq2))))))]
        have t9 : (S : Int) / 2 < (q : Int) := by omega
        clear hse hqe
        go_wp2_with fail
        go_ret2
        go_light
        exact ⟨_, by rw [e.out]; rfl, by rw [e.out]; exact Own.nil _ _ _ _, Fr.refl _ _⟩
      case neg =>
      have t9 : decide ((S : Int) / 2 < (q : Int)) = false := decide_eq_false (by omega)
      have e : Hid (r = (shareO cs S, 0)) := by
        show _ = _
        rw [HR.out, shareS, if_neg, ← HS.out]
        rintro (h | h | h | ⟨z, hz, hb⟩ | h | h)
        · omega
        · omega
        · have := HN.out; omega
        · obtain ⟨i, hi, rfl⟩ := mem_getD hz
          exact HB.out i hi hb
        · omega
        · rw [← hqe, ← HS.out] at h; omega
      have hall : 0 < s := by
        rcases Int.lt_or_le 0 s with h | h
        · exact h
        · exfalso
          apply hq0
          rw [hqe]
          unfold posN
          rw [List.length_eq_zero_iff, List.filter_eq_nil_iff]
          intro z hz hpos
          obtain ⟨i, hi, rfl⟩ := mem_getD hz
          have := le_sum HB.out (i := i)
          rw [← hse] at this
          have hpos := of_decide_eq_true hpos
          omega
      have hal2 : s ≤ 274877906944 := by omega
      have HSS := Lib.hid hse
      clear hse hqe
      go_wp2_with fail
      go_loopw [58, 11, 12] (fun iv ov sv wr => ∃ j : Nat, j ≤ k ∧ iv = .int .i64 j ∧ Own .i64 3 w.heap.size wr ov (out0 S s cs j) ∧ sv = .int .i64 (out0 S s cs j).sum ∧ Keeps w wr) (fun iv _ _ _ => k - (intOf iv).toNat)
      case atStart => exact ⟨0, by omega, rfl, by simp only [out0, tlen]; exact Own.nil _ _ _ _, by simp [out0, tlen], Fr.refl _ _⟩
      case round =>
        obtain ⟨j, hj, rfl, ho, rfl, hkp⟩ := hrel
        have HO := Lib.hid ho
        have HK := Lib.hid hkp
        have hob : ∀ z ∈ out0 (S : Int) s cs j, 0 ≤ z ∧ z ≤ (S : Int) := by rw [HSS.out]; exact out0_bound (by omega) HB.out
        have hsl := sum_le_len hob
        have hol := out0_length (S := (S : Int)) (all := s) (l := cs) (k := j) (by rw [← HN.out]; exact hj)
        obtain ⟨L, hL⟩ : ∃ L, L = tlen cs j := ⟨_, rfl⟩
        have hLj : L ≤ j := by rw [hL]; exact tlen_le cs j
        rw [hol, ← hL] at hsl
        obtain ⟨oa, oc, rfl⟩ := ho.form
        rw [hol, ← hL] at HO ⊢
        obtain ⟨sm, hsm⟩ : ∃ x, x = (out0 (S : Int) s cs j).sum := ⟨_, rfl⟩
        rw [← hsm] at hsl ⊢
        have hsm0 : 0 ≤ sm ∧ sm ≤ 32768 := by
          have : (S : Int) * (L : Int) ≤ 512 * 64 := by
            have h1 : (S : Int) * (L : Int) ≤ (S : Int) * 64 := Int.mul_le_mul_of_nonneg_left (by omega) (by omega)
            omega
          omega
        have HSM := Lib.hid hsm
        have HLT := Lib.hid hL
        have HOB := Lib.hid hob
        clear ho hkp hol hsl hsm hL hob
        by_cases hlt2 : j < k
        case neg =>
          obtain rfl : j = k := by omega
          have hL0 : 0 < L := by
            rcases Nat.eq_zero_or_pos L with h | h
            · exfalso
              apply hq0
              rw [HQE.out]
              unfold posN
              rw [List.length_eq_zero_iff, List.filter_eq_nil_iff]
              intro z hz hpos
              obtain ⟨i, hi, rfl⟩ := mem_getD (List.mem_of_mem_take hz)
              have := tlen_zero cs j i (by rw [← HLT.out]; omega) (by rw [HN.out]; exact hi)
              exact this (of_decide_eq_true hpos)
            · exact h
          obtain ⟨O, hO⟩ : ∃ O, O = out0 (S : Int) s cs j := ⟨_, rfl⟩
          rw [← hO] at HO HSM HOB
          have HOL : Hid (O.length = L) := by show _ = _; rw [hO, out0_length (by rw [← HN.out]; exact Nat.le_refl _), ← HLT.out]
          obtain ⟨D, M, hDM, HRR⟩ : ∃ (D : Int) (M : Nat), ((D = -1 ∧ (S : Int) < sm ∧ sm - (S : Int) = (M : Int)) ∨ (D = 1 ∧ sm ≤ (S : Int) ∧ (S : Int) - sm = (M : Int))) ∧ Hid (r = (adjN D M O, 0)) := by
            by_cases h : (S : Int) < sm
            · refine ⟨-1, (sm - (S : Int)).toNat, .inl ⟨rfl, h, by omega⟩, ?_⟩
              show _ = _
              rw [e.out, shareO, ← HSS.out, ← HN.out, ← hO, ← HSM.out, if_pos h]
            · refine ⟨1, ((S : Int) - sm).toNat, .inr ⟨rfl, by omega, by omega⟩, ?_⟩
              show _ = _
              rw [e.out, shareO, ← HSS.out, ← HN.out, ← hO, ← HSM.out, if_neg h]
          have hM1 : M ≤ 40000 := by omega
          have hD1 : -1 ≤ D ∧ D ≤ 1 := by omega
          obtain ⟨g2, c2, hv2, _, _, hgw, _⟩ := HO.out.formNe (by rw [HOL.out]; exact hL0)
          rw [HOL.out] at hv2
          injection hv2 with hv2a hv2b hv2c
          subst hv2a
          subst hv2c
          clear hO e
          go_wp2_with fail
          go_loopw [12] (fun sv wr => ∃ (n : Nat) (y : Int), n ≤ M ∧ sv = .int .i64 y ∧ ((D = -1 ∧ y = sm - (n : Int)) ∨ (D = 1 ∧ y = sm + (n : Int))) ∧ Own .i64 3 w.heap.size wr (.slice (some ⟨g2, 0, none⟩) L oc) (adjN D n O) ∧ Keeps w wr) (fun sv _ => (intOf sv - (S : Int)).natAbs)
          case atStart => exact ⟨0, sm, by omega, rfl, by omega, HO.out, HK.out⟩
          case round =>
            obtain ⟨n, y, hn, rfl, hy, ho2, hk2⟩ := hrel
            have HO2 := Lib.hid ho2
            have HK2 := Lib.hid hk2
            have hln := adjN_length D O n
            rw [HOL.out] at hln
            by_cases hlt3 : n < M
            case neg =>
              obtain rfl : n = M := by omega
              have hyS : y = (S : Int) := by omega
              clear ho2 hk2 hln hy
              subst hyS
              go_wp2_with fail
              go_ret2
              go_light
              exact ⟨_, by rw [HRR.out]; rfl, by rw [HRR.out]; exact HO2.out, HK2.out⟩
            case pos =>
              have hbd := adjN_bound hD1 (M := 512) (fun z hz => by have := HOB.out z hz; omega) (by omega) n
              obtain ⟨l, hl⟩ : ∃ l, l = adjN D n O := ⟨_, rfl⟩
              rw [← hl] at HO2 hbd hln
              have HADJ : Hid (adjN D (n + 1) O = l.set (gre l) (l.getD (gre l) 0 + D)) := by show _ = _; rw [adjN, ← hl]; rfl
              have hgl := greK_lt l l.length (by omega)
              have hin := HO2.out.ints.keeps ((Fr.refl _ _).drew)
              have HMX := Lib.hid (maxInts hin (by omega))
              have HIX := Lib.hid (gre_index hin (by omega))
              obtain ⟨cg, fg⟩ := HO2.out.at (i := gre l) hgl
              have hxb := hbd _ (getD_mem (zs := l) (k := gre l) hgl)
              obtain ⟨g, hg⟩ : ∃ g, g = gre l := ⟨_, rfl⟩
              have hgl : g < L := by rw [hg, ← hln]; exact hgl
              rw [← hg] at HIX HMX HADJ cg fg hxb
              obtain ⟨x, hx⟩ : ∃ x, x = l.getD g 0 := ⟨_, rfl⟩
              rw [← hx] at HIX HMX HADJ cg hxb
              have HTW2 : Hid (∀ w, Calls Try.prog 22 #[.int .i64 y, .int .i64 (S : Int)] w fun e w' => e = .returned (.int .i64 D) ∧ w' = w) := fun w => by
                have := towardOf (a := y) (b := (S : Int)) (w := w)
                rw [show (if (S : Int) < y then (-1 : Int) else 1) = D by split <;> omega] at this
                exact this
              have hys : (y != (S : Int)) = true := by simp; omega
              have hyb : -100000 ≤ y ∧ y ≤ 100000 := by omega
              have hxb2 : -100000 ≤ x ∧ x ≤ 100000 := by omega
              have hgL : (g : Int) < (L : Int) := by omega
              clear ho2 hk2 hln hbd hl hin hg hx hxb
              go_wp2_with fail
              go_region_with (first
                | (go_at_call 24; refine HMX.out.mono ?_; rintro e1 w1 ⟨rfl, hw1⟩; rw [hw1]; clear hw1)
                | (go_at_call 23; refine HIX.out.mono ?_; rintro e1 w1 ⟨rfl, hw1⟩; rw [hw1]; clear hw1)
                | (go_at_call 22; refine (HTW2.out _).mono ?_; rintro e1 w1 ⟨rfl, hw1⟩; rw [hw1]; clear hw1))
              all_goals
                go_wp2_with fail
                refine (HTW2.out _).mono ?_
                rintro e2 w2 ⟨rfl, hw2⟩
                rw [hw2]
                clear hw2
                go_wp2_with fail
                go_roundw
                all_goals go_light
                case rel =>
                  have hs1 := HO2.out.set g (y := x + D) (by simp [Lit.wf, IntKind.min, IntKind.max, IntKind.signed, IntKind.bits]; omega)
                  rw [← HADJ.out] at hs1
                  exact ⟨n + 1, y + D, by omega, by go_num, by omega, hs1.keeps (by repeat (first | exact Fr.refl _ _ | apply Fr.drew | apply Fr.drewN)), HK2.out.trans (((Fr.refl (fun i => i = g2) wr).setAt rfl g (.int .i64 (x + D))).drew) (fun i hi h => by have h : i = g2 := h; omega)⟩
                case measure => simp [intOf]; omega
        case pos =>
          obtain ⟨b, off, ha, ck⟩ := HC.out j hlt2
          subst ha
          have ck := HK.out.cell (p := ⟨b, off + j, none⟩) (fun h => h) ck
          have hbz := HB.out j (by rw [← HN.out]; exact hlt2)
          have HNX := Lib.hid (fun h : 0 < cs.getD j 0 => out0_next (S := (S : Int)) (all := s) (l := cs) (k := j) (by rw [← HN.out]; exact hlt2) h)
          have HNS := Lib.hid (fun h : 0 < cs.getD j 0 => out0_sum_next (S := (S : Int)) (all := s) (l := cs) (k := j) (by rw [← HN.out]; exact hlt2) h)
          have HSA := Lib.hid (fun h : ¬ 0 < cs.getD j 0 => out0_same (S := (S : Int)) (all := s) (l := cs) (k := j) h)
          have hle := le_sum HB.out (i := j)
          rw [← HSS.out] at hle
          obtain ⟨z, hz⟩ : ∃ z, z = cs.getD j 0 := ⟨_, rfl⟩
          rw [← hz] at ck hbz HNX HNS HSA hle
          rw [← HLT.out] at HNX
          rw [← HSM.out] at HNS
          have hzb : 0 ≤ z ∧ z ≤ 4294967295 := by unfold CtBad at hbz; omega
          clear hz hbz
          by_cases hz0 : 0 < z
          case neg =>
            have t10 : decide (0 < z) = false := decide_eq_false hz0
            go_wp2_with fail
            go_roundw
            all_goals go_light
            case rel => exact ⟨j + 1, by omega, by go_num, by rw [HSA.out (by omega)]; exact HO.out, by rw [HSA.out (by omega), ← HSM.out], HK.out⟩
            case measure => simp [intOf]; omega
          case pos =>
            have hzS : 0 ≤ z * (S : Int) ∧ z * (S : Int) ≤ 2199023255552 := ⟨Int.mul_nonneg (by omega) (by omega), by
              have h1 : z * (S : Int) ≤ 4294967295 * (S : Int) := Int.mul_le_mul_of_nonneg_right hzb.2 (by omega)
              omega⟩
            have hm : Hid ((j : Int) - (L : Int) + 1 = ((j - L + 1 : Nat) : Int)) := by show _ = _; omega
            have hMq : 0 ≤ z * (S : Int) / s ∧ z * (S : Int) / s ≤ 512 := ⟨Int.ediv_nonneg hzS.1 (by omega), by
              have h2 : z * (S : Int) ≤ (S : Int) * s := by rw [Int.mul_comm]; exact Int.mul_le_mul_of_nonneg_left hle (by omega)
              have := Int.ediv_le_of_le_mul (by omega) h2
              omega⟩
            have HL7 : Hid ((out0 (S : Int) s cs j ++ List.replicate (j - L + 1) 0).length = j + 1) := by
              show _ = _
              rw [List.length_append, out0_length (by rw [← HN.out]; omega), List.length_replicate, ← HLT.out]
              omega
            have hs0' : s ≠ 0 := by omega
            obtain ⟨D, hD⟩ : ∃ D, D = z * (S : Int) / s := ⟨_, rfl⟩
            go_wp2_with (at_builtin; go_loud (refine wpList_zeros rfl (.tmp 65) (.tmp 70) rfl elemI Try.underlying3 (m := j - L + 1) (.slice oa L oc) rfl (congrArg (Value.int .i64) hm.out) HO.out (by omega) (by rw [out0_length (by rw [← HN.out]; omega), ← HLT.out]; omega) HK.out.size ?_); intro v7 w7 hown7 hfr7; obtain ⟨g7, c7, hv7, _, _, _, _⟩ := hown7.formNe (by rw [HL7.out]; omega); rw [HL7.out] at hv7; subst hv7; obtain ⟨c7a, f7a⟩ := hown7.at (i := j) (by rw [HL7.out]; omega); have H7 := Lib.hid hown7; have F7 := Lib.hid hfr7; clear hown7 hfr7)
            go_roundw
            all_goals go_light
            case rel =>
              refine ⟨j + 1, by omega, by go_num, ?_, by rw [HNS.out hz0], (HK.out.trans F7.out (fun i hi h => by have := (HO.out.lt i h).1; omega)).trans ((Fr.refl (fun i => i = g7) w7).setAt rfl j _) (fun i hi h => by have h : i = g7 := h; omega)⟩
              rw [← HNX.out hz0]
              exact H7.out.set j (by simp [Lit.wf, IntKind.min, IntKind.max, IntKind.signed, IntKind.bits]; omega)
            case measure => simp [intOf]; omega
end Go.Proofs.Ytjdpijjoblfoaaa
