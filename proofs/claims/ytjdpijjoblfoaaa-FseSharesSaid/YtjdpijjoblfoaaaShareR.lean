/- Shares of counts: the reference's. -/
import Derived.Test.YtjdpijjoblfoaaaShare
import Derived.Test.YtjdpijjoblfoaaaCounts
namespace Go.Proofs.Ytjdpijjoblfoaaa
open Go.RowKit

/-- the row behind j of the counts -/
def rowJ (S all : Int) (l : List Int) (T j : Nat) : List Int := (l.take j).map (sh0 S all) ++ List.replicate (T - j) 0
theorem rowJ_length {S all : Int} {l : List Int} {T j : Nat} (h : j ≤ T) (hT : T ≤ l.length) : (rowJ S all l T j).length = T := by
  simp [rowJ]; omega
theorem rowJ_next {S all : Int} {l : List Int} {T j : Nat} (h : j < T) (hT : T ≤ l.length) : rowJ S all l T (j + 1) = (rowJ S all l T j).set j (sh0 S all (l.getD j 0)) ∧ (rowJ S all l T j).getD j 0 = 0 ∧ (sh0 S all (l.getD j 0) = 0 → rowJ S all l T (j + 1) = rowJ S all l T j) ∧
    (rowJ S all l T (j + 1)).sum = (rowJ S all l T j).sum + sh0 S all (l.getD j 0) := by
  have hl : ((l.take j).map (sh0 S all)).length = j := by rw [List.length_map, List.length_take]; omega
  have e1 : rowJ S all l T j = (l.take j).map (sh0 S all) ++ 0 :: List.replicate (T - (j + 1)) 0 := by
    unfold rowJ
    rw [show T - j = (T - (j + 1)) + 1 by omega, List.replicate_succ]
  have e2 : rowJ S all l T (j + 1) = (l.take j).map (sh0 S all) ++ sh0 S all (l.getD j 0) :: List.replicate (T - (j + 1)) 0 := by
    unfold rowJ
    rw [List.take_add_one, List.getElem?_eq_getElem (by omega), List.map_append, List.append_assoc, List.getD_eq_getElem?_getD, List.getElem?_eq_getElem (by omega)]
    rfl
  refine ⟨?_, ?_, fun h0 => ?_, ?_⟩
  · rw [e1, e2, List.set_append_right _ _ (by omega), hl]
    simp
  · rw [e1, List.getD_eq_getElem?_getD, List.getElem?_append_right (by omega), hl]
    simp
  · rw [e1, e2, h0]
  · rw [e1, e2, List.sum_append, List.sum_append, List.sum_cons, List.sum_cons]
    omega
theorem rowJ_out {S all : Int} {l : List Int} : rowJ S all l (tlen l l.length) (tlen l l.length) = out0 S all l l.length := by
  simp [rowJ, out0]
theorem rowJ_bound {S : Int} {l : List Int} (hS : 1 ≤ S) (h : ∀ i, i < l.length → ¬ CtBad (l.getD i 0)) {T j : Nat} : ∀ z ∈ rowJ S l.sum l T j, 0 ≤ z ∧ z ≤ S := fun z hz => by
  rcases List.mem_append.1 hz with h1 | h1
  · obtain ⟨c, hc, rfl⟩ := List.mem_map.1 h1
    obtain ⟨i, hi, rfl⟩ := mem_getD (List.mem_of_mem_take hc)
    exact sh0_bound hS (h i hi) (le_sum h)
  · rw [List.eq_of_mem_replicate h1]; omega

set_option maxRecDepth 100000 in
set_option maxHeartbeats 4000000 in
theorem refShare {v : Value} {cs : List Int} {log : Int} {w : World} (h : Ints .i64 w v cs) (hw : -9223372036854775808 ≤ log ∧ log ≤ 9223372036854775807) :
    Calls Try.prog 10 #[v, .int .i64 log] w fun e w' => ∃ x, e = .returned (.tuple #[x, .int .i64 (shareS cs log).2]) ∧ Own .i64 3 w.heap.size w' x (shareS cs log).1 ∧ Keeps w w' := by
  have HV := Lib.hid h
  obtain ⟨_, a, cap, rfl, hcap, hmax, _, hc⟩ := h
  have HC := Lib.hid hc
  obtain ⟨N, hN⟩ : ∃ N, N = cs.length := ⟨_, rfl⟩
  rw [← hN] at hcap HC HV ⊢
  have HN := Lib.hid hN
  obtain ⟨r, hr⟩ : ∃ r, r = shareS cs log := ⟨_, rfl⟩
  rw [← hr]
  have HR := Lib.hid hr
  unfold maxLen at hmax
  clear hc hN hr
  have hor : log < 5 ∨ (5 ≤ log ∧ 9 < log) ∨ (5 ≤ log ∧ log ≤ 9 ∧ 64 < N) ∨ (5 ≤ log ∧ log ≤ 9 ∧ N ≤ 64) := by omega
  rcases hor with h1 | ⟨h1, h2⟩ | ⟨h1, h2, h3⟩ | ⟨h1, h2, h3⟩
  · have e : Hid (r = ([], 1)) := by show _ = _; rw [HR.out, shareS, if_pos (.inl h1)]
    go_enter Try.func10, Try.ntmps10
    go_wp2_with fail
    go_ret2
    exact ⟨_, by rw [e.out]; rfl, by rw [e.out]; exact Own.nil _ _ _ _, Fr.refl _ _⟩
  · have e : Hid (r = ([], 1)) := by show _ = _; rw [HR.out, shareS, if_pos (.inr (.inl h2))]
    have t1 : decide (log < 5) = false := decide_eq_false (by omega)
    go_enter Try.func10, Try.ntmps10
    go_wp2_with fail
    go_ret2
    exact ⟨_, by rw [e.out]; rfl, by rw [e.out]; exact Own.nil _ _ _ _, Fr.refl _ _⟩
  · have e : Hid (r = ([], 1)) := by show _ = _; rw [HR.out, shareS, if_pos (.inr (.inr (.inl (by rw [← HN.out]; exact h3))))]
    have t1 : decide (log < 5) = false := decide_eq_false (by omega)
    have t2 : decide (9 < log) = false := decide_eq_false (by omega)
    go_enter Try.func10, Try.ntmps10
    go_wp2_with fail
    go_ret2
    exact ⟨_, by rw [e.out]; rfl, by rw [e.out]; exact Own.nil _ _ _ _, Fr.refl _ _⟩
  have t1 : decide (log < 5) = false := decide_eq_false (by omega)
  have t2 : decide (9 < log) = false := decide_eq_false (by omega)
  have t3 : decide (64 < (N : Int)) = false := decide_eq_false (by omega)
  have t4 : decide (64 < N) = false := decide_eq_false (by omega)
  obtain ⟨S, hS⟩ : ∃ S : Nat, S = 2 ^ log.toNat := ⟨_, rfl⟩
  have hS5 : 32 ≤ S ∧ S ≤ 512 := by rw [hS]; exact pow_logN ⟨h1, h2⟩
  have hSi : (2 : Int) ^ log.toNat = (S : Int) := by rw [hS]; simp
  have HS := Lib.hid hS
  clear hS
  go_enter Try.func10, Try.ntmps10
  go_wp2_with fail
  clear hSi
  go_loopw [10, 7, 8, 9] (fun iv av sv lv wr => ∃ k : Nat, k ≤ N ∧ iv = .int .i64 k ∧ av = .int .i64 (cs.take k).sum ∧ sv = .int .i64 (posN (cs.take k) : Nat) ∧ lv = .int .i64 ((tlen cs k : Int) - 1) ∧ (∀ i, i < k → ¬ CtBad (cs.getD i 0)) ∧ 0 ≤ (cs.take k).sum ∧ (cs.take k).sum ≤ 4294967295 * (k : Int) ∧ posN (cs.take k) ≤ k ∧ wr = w) (fun iv _ _ _ _ => N - (intOf iv).toNat)
  case atStart => exact ⟨0, by omega, rfl, rfl, rfl, rfl, fun i hi => by omega, by simp, by simp, by simp [posN], rfl⟩
  case round =>
    obtain ⟨k, hk, rfl, rfl, rfl, rfl, hall, hs0, hs1, hp1, hww⟩ := hrel
    rw [hww]
    clear hww
    have HA := Lib.hid hall
    have HST := Lib.hid (fun h => sum_take cs (k := k) h)
    have HPT := Lib.hid (fun h => posN_take cs (k := k) h)
    have HTT : Hid (tlen cs (k + 1) = if 0 < cs.getD k 0 then k + 1 else tlen cs k) := rfl
    have htk := tlen_le cs k
    obtain ⟨s, hs⟩ : ∃ s, s = (cs.take k).sum := ⟨_, rfl⟩
    obtain ⟨q, hq⟩ : ∃ q, q = posN (cs.take k) := ⟨_, rfl⟩
    obtain ⟨T, hT⟩ : ∃ T, T = tlen cs k := ⟨_, rfl⟩
    rw [← hs] at hs0 hs1 HST ⊢
    rw [← hq] at hp1 HPT ⊢
    rw [← hT] at HTT htk ⊢
    have HSE := Lib.hid hs
    have HQE := Lib.hid hq
    have HTE := Lib.hid hT
    clear hall hs hq hT
    by_cases hlt : k < N
    case pos =>
      obtain ⟨b, off, ha, ck⟩ := HC.out k hlt
      subst ha
      obtain ⟨z, hz⟩ : ∃ z, z = cs.getD k 0 := ⟨_, rfl⟩
      rw [← hz] at ck HST HPT HTT
      have HZ := Lib.hid hz
      clear hz
      have hz3 : z < 0 ∨ (0 ≤ z ∧ 4294967295 < z) ∨ (0 ≤ z ∧ z ≤ 4294967295) := by omega
      have ti1 : (0 : Int) ≤ (k : Int) := by omega
      have ti2 : (k : Int) < (N : Int) := by omega
      rcases hz3 with hz1 | ⟨hz1, hz2⟩ | ⟨hz1, hz2⟩
      · have e : Hid (r = ([], 1)) := by show _ = _; rw [HR.out, shareS, if_pos (.inr (.inr (.inr (.inl ⟨z, by rw [HZ.out]; exact getD_mem (by rw [← HN.out]; exact hlt), .inl hz1⟩))))]
        go_wp2_with fail
        go_ret2
        go_light
        exact ⟨_, by rw [e.out]; rfl, by rw [e.out]; exact Own.nil _ _ _ _, Fr.refl _ _⟩
      · have e : Hid (r = ([], 1)) := by show _ = _; rw [HR.out, shareS, if_pos (.inr (.inr (.inr (.inl ⟨z, by rw [HZ.out]; exact getD_mem (by rw [← HN.out]; exact hlt), .inr hz2⟩))))]
        have t5 : decide (z < 0) = false := decide_eq_false (by omega)
        go_wp2_with fail
        go_ret2
        go_light
        exact ⟨_, by rw [e.out]; rfl, by rw [e.out]; exact Own.nil _ _ _ _, Fr.refl _ _⟩
      · have t5 : decide (z < 0) = false := decide_eq_false (by omega)
        have t6 : decide (4294967295 < z) = false := decide_eq_false (by omega)
        have HBD : Hid (∀ i, i < k + 1 → ¬ CtBad (cs.getD i 0)) := fun i hi => by
          by_cases e : i = k
          · rw [e, ← HZ.out]; unfold CtBad; omega
          · exact HA.out i (by omega)
        by_cases hz0 : 0 < z
        · go_wp2_with fail
          go_roundw
          all_goals go_light
          case rel =>
            have g1 := HST.out (by rw [← HN.out]; exact hlt)
            have g2 := HPT.out (by rw [← HN.out]; exact hlt)
            have g3 := HTT.out
            rw [if_pos hz0] at g2 g3
            exact ⟨k + 1, by omega, by go_num, by rw [g1], by rw [g2]; go_num, by rw [g3]; go_num, HBD.out, by rw [g1]; omega, by rw [g1]; omega, by rw [g2]; omega, trivial⟩
          case measure => simp [intOf]; omega
        · have t7 : decide (0 < z) = false := decide_eq_false hz0
          go_wp2_with fail
          go_roundw
          all_goals go_light
          case rel =>
            have g1 := HST.out (by rw [← HN.out]; exact hlt)
            have g2 := HPT.out (by rw [← HN.out]; exact hlt)
            have g3 := HTT.out
            rw [if_neg hz0] at g2 g3
            exact ⟨k + 1, by omega, by go_num, by rw [g1], by rw [g2]; go_num, by rw [g3], HBD.out, by rw [g1]; omega, by rw [g1]; omega, by rw [g2]; omega, trivial⟩
          case measure => simp [intOf]; omega
    case neg =>
      obtain rfl : k = N := by omega
      have hse : s = cs.sum := by rw [HSE.out, HN.out, List.take_length]
      have hqe : q = posN cs := by rw [HQE.out, HN.out, List.take_length]
      have HB : Hid (∀ i, i < cs.length → ¬ CtBad (cs.getD i 0)) := by show ∀ i, i < cs.length → _; rw [← HN.out]; exact HA.out
      by_cases hq0 : q = 0
      case pos =>
        have e : Hid (r = ([], 1)) := by show _ = _; rw [HR.out, shareS, if_pos (.inr (.inr (.inr (.inr (.inl (by rw [← hqe]; exact hq0))))))]
        subst hq0
        clear hse hqe
        go_wp2_with fail
        go_ret2
        go_light
        exact ⟨_, by rw [e.out]; rfl, by rw [e.out]; exact Own.nil _ _ _ _, Fr.refl _ _⟩
      case neg =>
      have t8 : ((q : Int) == 0) = false := by simp; omega
      by_cases hq2 : S < 2 * q
      case pos =>
        have e : Hid (r = ([], 1)) := by show _ = _; rw [HR.out, shareS, if_pos (.inr (.inr (.inr (.inr (.inr (by rw [← hqe, ← HS.out]; exact hq2))))))]
        have t9 : (S : Int) < 2 * (q : Int) := by omega
        clear hse hqe
        go_wp2_with fail
        go_ret2
        go_light
        exact ⟨_, by rw [e.out]; rfl, by rw [e.out]; exact Own.nil _ _ _ _, Fr.refl _ _⟩
      case neg =>
      have t9 : decide ((S : Int) < 2 * (q : Int)) = false := decide_eq_false (by omega)
      have e : Hid (r = (shareO cs S, 0)) := by
        show _ = _
        rw [HR.out, shareS, if_neg, ← HS.out]
        rintro (h | h | h | ⟨z, hz, hb⟩ | h | h)
        · omega
        · omega
        · have := HN.out; omega
        · obtain ⟨i, hi, rfl⟩ := mem_getD hz
          exact HB.out i hi hb
        · omega
        · rw [← hqe, ← HS.out] at h; omega
      have hall : 0 < s := by
        rcases Int.lt_or_le 0 s with h | h
        · exact h
        · exfalso
          apply hq0
          rw [hqe]
          unfold posN
          rw [List.length_eq_zero_iff, List.filter_eq_nil_iff]
          intro z hz hpos
          obtain ⟨i, hi, rfl⟩ := mem_getD hz
          have := le_sum HB.out (i := i)
          rw [← hse] at this
          have hpos := of_decide_eq_true hpos
          omega
      have hT0 : 0 < T := by
        rcases Nat.eq_zero_or_pos T with h | h
        · exfalso
          apply hq0
          rw [HQE.out]
          unfold posN
          rw [List.length_eq_zero_iff, List.filter_eq_nil_iff]
          intro z hz hpos
          obtain ⟨i, hi, rfl⟩ := mem_getD (List.mem_of_mem_take hz)
          have := tlen_zero cs k i (by rw [← HTE.out]; omega) (by rw [HN.out]; exact hi)
          exact this (of_decide_eq_true hpos)
        · exact h
      have hal2 : s ≤ 274877906944 := by omega
      have HSS := Lib.hid hse
      have HTN : Hid (T = tlen cs cs.length) := by show _ = _; rw [HTE.out, HN.out]
      clear hse hqe
      have hmk0 := run_make_row' (P := Try.prog) 22 3 (.int .i64 0) 8 Try.underlying22 infoInt rfl .i64 .i64 T (by omega) (by omega)
      have hw1 : IntKind.i64.wrap ((T : Int) - 1 + 1) = (T : Int) := by rw [show (T : Int) - 1 + 1 = (T : Int) by omega]; exact wraps_i64 _ (by omega) (by omega)
      have hw2 : (T : Int) - 1 + 1 = (T : Int) := by omega
      have HOM : Hid (Own .i64 3 w.heap.size (w.alloc (.cells (madeCells #[.int .i64 0] T) 3)) (.slice (some ⟨w.heap.size, 0, none⟩) T T) (rowJ S s cs T 0)) := by
        have := own_made (k := .i64) (E := 3) (w := w) (N := T) (by omega) (by decide)
        show Own _ _ _ _ _ _
        simpa [rowJ] using this
      go_wp2_with fail
      clear hmk0 hw1 hw2
      obtain ⟨g, hg⟩ : ∃ g, g = w.heap.size := ⟨_, rfl⟩
      rw [← hg] at HOM ⊢
      have HG := Lib.hid hg
      clear hg
      go_loopw [13, 12] (fun iv sv wr => ∃ j : Nat, j ≤ T ∧ iv = .int .i64 j ∧ Own .i64 3 g wr (.slice (some ⟨g, 0, none⟩) T T) (rowJ S s cs T j) ∧ sv = .int .i64 (rowJ S s cs T j).sum ∧ Keeps w wr) (fun iv _ _ => T - (intOf iv).toNat)
      case atStart =>
        refine ⟨0, by omega, rfl, HOM.out, ?_, (Fr.refl _ _).alloc _⟩
        have hz : ∀ n : Nat, (List.replicate n (0 : Int)).sum = 0 := fun n => by
          induction n with
          | zero => rfl
          | succ n ih => rw [List.replicate_succ, List.sum_cons, ih]; rfl
        simp [rowJ, hz]
      case round =>
        obtain ⟨j, hj, rfl, ho, rfl, hkp⟩ := hrel
        have HO := Lib.hid ho
        have HK := Lib.hid hkp
        have hTl : T ≤ cs.length := by rw [HTN.out]; exact tlen_le _ _
        have hob : ∀ z ∈ rowJ (S : Int) s cs T j, 0 ≤ z ∧ z ≤ (S : Int) := by rw [HSS.out]; exact rowJ_bound (by omega) HB.out
        have hsl := sum_le_len hob
        have hol := rowJ_length (S := (S : Int)) (all := s) hj hTl
        rw [hol] at hsl
        have HNX := Lib.hid (fun h : j < T => rowJ_next (S := (S : Int)) (all := s) h hTl)
        obtain ⟨O, hO⟩ : ∃ O, O = rowJ (S : Int) s cs T j := ⟨_, rfl⟩
        rw [← hO] at HO HNX hob hsl hol ⊢
        obtain ⟨sm, hsm⟩ : ∃ x, x = O.sum := ⟨_, rfl⟩
        rw [← hsm] at hsl HNX ⊢
        have hsm0 : 0 ≤ sm ∧ sm ≤ 32768 := by
          have : (S : Int) * (T : Int) ≤ 512 * 64 := by
            have h1 : (S : Int) * (T : Int) ≤ (S : Int) * 64 := Int.mul_le_mul_of_nonneg_left (by omega) (by omega)
            omega
          omega
        have HSM := Lib.hid hsm
        have HOB := Lib.hid hob
        have HOE := Lib.hid hO
        have HOL := Lib.hid hol
        clear ho hkp hsl hsm hob hO hol
        by_cases hlt2 : j < T
        case neg =>
          obtain rfl : j = T := by omega
          have HOO : Hid (O = out0 (S : Int) s cs cs.length) := by show _ = _; rw [HOE.out, HTN.out, rowJ_out]
          have HRR : Hid (r = (adjN 1 ((S : Int) - (sm - ((sm - (S : Int)).toNat : Int))).toNat (adjN (-1) (sm - (S : Int)).toNat O), 0)) := by
            show _ = _
            rw [e.out, shareO, ← HSS.out, ← HOO.out, ← HSM.out]
            by_cases h : (S : Int) < sm
            · rw [if_pos h, show ((S : Int) - (sm - ((sm - (S : Int)).toNat : Int))).toNat = 0 by omega]; rfl
            · rw [if_neg h, show (sm - (S : Int)).toNat = 0 by omega]
              show _ = (adjN 1 ((S : Int) - (sm - ((0 : Nat) : Int))).toNat (adjN (-1) 0 O), _)
              simp [adjN]
          obtain ⟨M, hM⟩ : ∃ M, M = (sm - (S : Int)).toNat := ⟨_, rfl⟩
          rw [← hM] at HRR
          have hM1 : M ≤ 40000 := by omega
          have hMs : sm - (M : Int) ≤ (S : Int) ∧ (0 < M → sm - (M : Int) = (S : Int)) := by omega
          clear e hM
          have td0 : decide ((j : Int) ≤ (j : Int) - 1) = false := decide_eq_false (by omega)
          go_wp2_with fail
          go_loopw [12] (fun sv wr => ∃ (n : Nat) (y : Int), n ≤ M ∧ sv = .int .i64 y ∧ y = sm - (n : Int) ∧ Own .i64 3 g wr (.slice (some ⟨g, 0, none⟩) j j) (adjN (-1) n O) ∧ Keeps w wr) (fun sv _ => (intOf sv - (S : Int)).toNat)
          case atStart => exact ⟨0, sm, by omega, rfl, by omega, HO.out, HK.out⟩
          case round =>
            obtain ⟨n, y, hn, rfl, hy, ho2, hk2⟩ := hrel
            have HO2 := Lib.hid ho2
            have HK2 := Lib.hid hk2
            have hln := adjN_length (-1) O n
            rw [HOL.out] at hln
            have hbd := adjN_bound (d := -1) (by omega) (M := 512) (l := O) (fun z hz => by have := HOB.out z hz; omega) (by omega) n
            by_cases hlt3 : n < M
            case neg =>
              obtain rfl : n = M := by omega
              obtain ⟨O1, hO1⟩ : ∃ O1, O1 = adjN (-1) n O := ⟨_, rfl⟩
              rw [← hO1] at HO2 hln hbd HRR
              obtain ⟨M2, hM2⟩ : ∃ M2, M2 = ((S : Int) - y).toNat := ⟨_, rfl⟩
              rw [← hy, ← hM2] at HRR
              have hyb : 0 ≤ y + 100000 ∧ y ≤ (S : Int) := by omega
              have hM2b : M2 ≤ 200000 := by omega
              have HM2 : Hid ((M2 : Int) = (S : Int) - y) := by show _ = _; omega
              have HLN := Lib.hid hln
              have HBD := Lib.hid hbd
              have td3 : decide ((S : Int) < y) = false := decide_eq_false (by omega)
              clear ho2 hk2 hln hbd hO1 hM2 hy hMs
              go_wp2_with fail
              go_loopw [12] (fun sv wr => ∃ (m : Nat) (x : Int), m ≤ M2 ∧ sv = .int .i64 x ∧ x = y + (m : Int) ∧ Own .i64 3 g wr (.slice (some ⟨g, 0, none⟩) j j) (adjN 1 m O1) ∧ Keeps w wr) (fun sv _ => ((S : Int) - intOf sv).toNat)
              case atStart => exact ⟨0, y, by omega, rfl, by omega, HO2.out, HK2.out⟩
              case round =>
                obtain ⟨m, x, hm, rfl, hx, ho3, hk3⟩ := hrel
                have HO3 := Lib.hid ho3
                have HK3 := Lib.hid hk3
                have HXE := Lib.hid hx
                have hm2 := HM2.out
                have hxS : x < (S : Int) ↔ m < M2 := by omega
                have hxb3 : -100000 ≤ x ∧ x ≤ 100000 := by omega
                clear ho3 hk3 hx hm2
                by_cases hlt4 : m < M2
                case neg =>
                  obtain rfl : m = M2 := by omega
                  have td4 : decide (x < (S : Int)) = false := decide_eq_false (by omega)
                  clear hxS
                  go_wp2_with fail
                  go_ret2
                  go_light
                  exact ⟨_, by rw [HRR.out]; rfl, by rw [HRR.out, ← HG.out]; exact HO3.out, HK3.out⟩
                case pos =>
                  have hln := adjN_length 1 O1 m
                  rw [HLN.out] at hln
                  have hbd := adjN_bound (d := 1) (by omega) (M := 50000) (l := O1) (fun z hz => by have := HBD.out z hz; omega) (by omega) m
                  obtain ⟨l, hl⟩ : ∃ l, l = adjN 1 m O1 := ⟨_, rfl⟩
                  rw [← hl] at HO3 hbd hln
                  have HADJ : Hid (adjN 1 (m + 1) O1 = l.set (gre l) (l.getD (gre l) 0 + 1)) := by show _ = _; rw [adjN, ← hl]; rfl
                  have hgl := greK_lt l l.length (by omega)
                  have HGR := Lib.hid (refGreatest HO3.out.ints (by omega))
                  have hxb := hbd _ (getD_mem (zs := l) (k := gre l) hgl)
                  have HLL := Lib.hid hln
                  obtain ⟨p, hp⟩ : ∃ p, p = gre l := ⟨_, rfl⟩
                  have hgl : p < j := by rw [hp, ← hln]; exact hgl
                  rw [← hp] at HGR HADJ hxb
                  obtain ⟨u, hu⟩ : ∃ u, u = l.getD p 0 := ⟨_, rfl⟩
                  rw [← hu] at HADJ hxb
                  have HU := Lib.hid hu
                  have hub : -1000000 ≤ u ∧ u ≤ 1000000 := by omega
                  have hgL : (p : Int) < (j : Int) := by omega
                  have td4 : decide (x < (S : Int)) = true := decide_eq_true (by omega)
                  have td5 : x < (S : Int) := by omega
                  clear hbd hl hln hp hu hxb hxS
                  go_wp2_with fail
                  refine HGR.out.mono ?_
                  rintro e1 w1 ⟨rfl, k1⟩
                  have HO4 := Lib.hid (HO3.out.keeps k1)
                  have HK4 : Hid (Keeps w w1) := HK3.out.keeps k1
                  obtain ⟨cg, fg⟩ := HO4.out.at (i := p) (by have := HLL.out; omega)
                  rw [← HU.out] at cg
                  clear k1
                  go_wp2_with fail
                  go_roundw
                  all_goals go_light
                  case rel =>
                    have hs1 := HO4.out.set p (y := u + 1) (by simp [Lit.wf, IntKind.min, IntKind.max, IntKind.signed, IntKind.bits]; omega)
                    rw [← HADJ.out] at hs1
                    exact ⟨m + 1, x + 1, by omega, by go_num, by have := HXE.out; omega, hs1, HK4.out.trans ((Fr.refl (fun i => i = g) w1).setAt rfl p (.int .i64 (u + 1))) (fun i hi h => by have h : i = g := h; have := HG.out; omega)⟩
                  case measure => have := HXE.out; have := HM2.out; simp [intOf]; omega
            case pos =>
              obtain ⟨l, hl⟩ : ∃ l, l = adjN (-1) n O := ⟨_, rfl⟩
              rw [← hl] at HO2 hbd hln
              have HADJ : Hid (adjN (-1) (n + 1) O = l.set (gre l) (l.getD (gre l) 0 + -1)) := by show _ = _; rw [adjN, ← hl]; rfl
              have hgl := greK_lt l l.length (by omega)
              have HGR := Lib.hid (refGreatest HO2.out.ints (by omega))
              have hxb := hbd _ (getD_mem (zs := l) (k := gre l) hgl)
              have HLL := Lib.hid hln
              obtain ⟨p, hp⟩ : ∃ p, p = gre l := ⟨_, rfl⟩
              have hgl : p < j := by rw [hp, ← hln]; exact hgl
              rw [← hp] at HGR HADJ hxb
              obtain ⟨u, hu⟩ : ∃ u, u = l.getD p 0 := ⟨_, rfl⟩
              rw [← hu] at HADJ hxb
              have HU := Lib.hid hu
              have hub : -1000000 ≤ u ∧ u ≤ 1000000 := by omega
              have hgL : (p : Int) < (j : Int) := by omega
              have td5 : (S : Int) < y := by omega
              clear ho2 hk2 hbd hl hln hp hu hxb
              go_wp2_with fail
              refine HGR.out.mono ?_
              rintro e1 w1 ⟨rfl, k1⟩
              have HO4 := Lib.hid (HO2.out.keeps k1)
              have HK4 : Hid (Keeps w w1) := HK2.out.keeps k1
              obtain ⟨cg, fg⟩ := HO4.out.at (i := p) (by have := HLL.out; omega)
              rw [← HU.out] at cg
              clear k1
              go_wp2_with fail
              go_roundw
              all_goals go_light
              case rel =>
                have hs1 := HO4.out.set p (y := u + -1) (by simp [Lit.wf, IntKind.min, IntKind.max, IntKind.signed, IntKind.bits]; omega)
                rw [← HADJ.out] at hs1
                exact ⟨n + 1, y - 1, by omega, by go_num, by omega, hs1, HK4.out.trans ((Fr.refl (fun i => i = g) w1).setAt rfl p (.int .i64 (u + -1))) (fun i hi h => by have h : i = g := h; have := HG.out; omega)⟩
              case measure => simp [intOf]; omega
        case pos =>
          obtain ⟨b, off, ha, ck⟩ := HC.out j (by omega)
          subst ha
          have ck := HK.out.cell (p := ⟨b, off + j, none⟩) (fun h => h) ck
          have hbz := HB.out j (by omega)
          obtain ⟨n1, n2, n3, n4⟩ := HNX.out hlt2
          have hle := le_sum HB.out (i := j)
          rw [← HSS.out] at hle
          obtain ⟨co, fo⟩ := HO.out.at (i := j) (by have := HOL.out; omega)
          rw [n2] at co
          obtain ⟨z, hz⟩ : ∃ z, z = cs.getD j 0 := ⟨_, rfl⟩
          rw [← hz] at ck hbz n1 n3 n4 hle
          have hzb : 0 ≤ z ∧ z ≤ 4294967295 := by unfold CtBad at hbz; omega
          have HN1 := Lib.hid n1
          have HN3 := Lib.hid n3
          have HN4 := Lib.hid n4
          have ti1 : (0 : Int) ≤ (j : Int) := by omega
          have ti2 : (j : Int) < (k : Int) := by omega
          have ti3 : (j : Int) < (T : Int) := by omega
          have ti4 : (j : Int) ≤ (T : Int) - 1 := by omega
          have td0 : decide ((j : Int) ≤ (T : Int) - 1) = true := decide_eq_true ti4
          clear hz hbz n1 n2 n3 n4
          by_cases hz0 : z = 0
          case pos =>
            subst hz0
            have hsz : Hid (sh0 (S : Int) s 0 = 0) := by show _ = _; simp [sh0]
            go_wp2_with fail
            go_roundw
            all_goals go_light
            case rel => exact ⟨j + 1, by omega, by go_num, by rw [HN3.out hsz.out]; exact HO.out, by rw [HN4.out, hsz.out, Int.add_zero], HK.out⟩
            case measure => simp [intOf]; omega
          case neg =>
            have tz : (z == 0) = false := by simpa using hz0
            have hzS : 0 ≤ z * (S : Int) ∧ z * (S : Int) ≤ 2199023255552 := ⟨Int.mul_nonneg (by omega) (by omega), by
              have h1 : z * (S : Int) ≤ 4294967295 * (S : Int) := Int.mul_le_mul_of_nonneg_right hzb.2 (by omega)
              omega⟩
            have hMq : 0 ≤ z * (S : Int) / s ∧ z * (S : Int) / s ≤ 512 := ⟨Int.ediv_nonneg hzS.1 (by omega), by
              have h2 : z * (S : Int) ≤ (S : Int) * s := by rw [Int.mul_comm]; exact Int.mul_le_mul_of_nonneg_left hle (by omega)
              have := Int.ediv_le_of_le_mul (by omega) h2
              omega⟩
            have hs0' : s ≠ 0 := by omega
            have HSH : Hid (sh0 (S : Int) s z = max 1 (z * (S : Int) / s)) := by show _ = _; rw [sh0, if_pos (by omega)]
            by_cases hD1 : z * (S : Int) / s < 1
            · have hDD : Hid (sh0 (S : Int) s z = 1) := by show _ = _; rw [HSH.out]; omega
              have td6 : decide (z * (S : Int) / s < 1) = true := decide_eq_true hD1
              go_wp2_with fail
              go_roundw
              all_goals go_light
              case rel =>
                refine ⟨j + 1, by omega, by go_num, ?_, by rw [HN4.out, hDD.out], (HK.out.trans ((Fr.refl (fun i => i = g) wr).setAt rfl j _) (fun i hi h => by have h : i = g := h; have := HG.out; omega)).trans ((Fr.refl (fun i => i = g) _).setAt rfl j _) (fun i hi h => by have h : i = g := h; have := HG.out; omega)⟩
                have := (HO.out.set j (y := z * (S : Int) / s) (by simp [Lit.wf, IntKind.min, IntKind.max, IntKind.signed, IntKind.bits]; omega)).set j (y := 1) (by decide)
                rw [List.set_set] at this
                rw [HN1.out, hDD.out]
                exact this
              case measure => simp [intOf]; omega
            · have hDD : Hid (sh0 (S : Int) s z = z * (S : Int) / s) := by show _ = _; rw [HSH.out]; omega
              have td6 : decide (z * (S : Int) / s < 1) = false := decide_eq_false hD1
              go_wp2_with fail
              go_roundw
              all_goals go_light
              case rel =>
                refine ⟨j + 1, by omega, by go_num, ?_, by rw [HN4.out, hDD.out], (HK.out.trans ((Fr.refl (fun i => i = g) wr).setAt rfl j _) (fun i hi h => by have h : i = g := h; have := HG.out; omega))⟩
                have := (HO.out.set j (y := z * (S : Int) / s) (by simp [Lit.wf, IntKind.min, IntKind.max, IntKind.signed, IntKind.bits]; omega))
                rw [HN1.out, hDD.out]
                exact this
              case measure => simp [intOf]; omega
end Go.Proofs.Ytjdpijjoblfoaaa
