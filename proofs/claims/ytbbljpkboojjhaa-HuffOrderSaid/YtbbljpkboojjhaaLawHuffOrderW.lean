/- HuffOrder: the walk. -/
import Derived.Test.YtbbljpkboojjhaaHfLives
import Derived.Test.YtbbljpkboojjhaaHfMayR
import Derived.Test.YtbbljpkboojjhaaHfOrdP
import Derived.BigQuiet
namespace Go.Proofs.Ytbbljpkboojjhaa
open Go.RowKit

set_option maxRecDepth 100000 in
set_option maxHeartbeats 8000000 in
theorem walkHuffOrder {v : Value} {cs : List Int} {w : World} (h : Ints .i64 w v cs) (hz : cs.length ≤ 17592186043904) :
    Calls Try.prog 5 #[v] w fun e w' => e = .returned (.bool true) ∧ Keeps w w' := by
  have HV := Lib.hid h
  obtain ⟨_, a, cap, rfl, hcap, hmax, _, hc⟩ := h
  have HC := Lib.hid hc
  obtain ⟨N, hN⟩ : ∃ N, N = cs.length := ⟨_, rfl⟩
  rw [← hN] at hcap HC HV ⊢
  have HN := Lib.hid hN
  unfold maxLen at hmax
  have HZ : Hid (cs.length ≤ 17592186043904) := hz
  clear hc hN hz
  by_cases hno : csMay cs
  case neg =>
    have HNO := Lib.hid hno
    clear hno
    go_enter Try.func5, Try.ntmps5
    go_wp2_with fail
    refine (lengthsNo HV.out HZ.out HNO.out).mono ?_
    rintro e1 w1 ⟨rfl, k1⟩
    have K1 := Lib.hid k1
    clear k1
    go_wp2_with (go_at_call 11; refine (livesHuff _).mono ?_; rintro e w7 ⟨rfl, k7⟩; have K7 := Lib.hid k7; clear k7)
    go_ret
    go_light
    exact ⟨rfl, K1.out.keeps K7.out⟩
  case pos =>
    have hok := lengths_ok hno
    have HLY := Lib.hid (lengthsYes HV.out hno)
    have HB : Hid (∀ i, i < N → 0 ≤ cs.getD i 0 ∧ cs.getD i 0 ≤ 4294967295) := by rw [HN.out]; exact hno.2.1
    have hN256 : N ≤ 256 := by rw [HN.out]; exact hno.1
    obtain ⟨X, hX⟩ : ∃ X, X = lengthsS cs := ⟨_, rfl⟩
    rw [← hX] at hok HLY
    obtain ⟨M, hM⟩ : ∃ M, M = X.length := ⟨_, rfl⟩
    have hMN : M ≤ N := by have := hok.len; have := lastK_le cs cs.length; have := HN.out; omega
    have hM0 : 0 < M := by rw [hM]; exact hok.may.1.1
    have HOK := Lib.hid hok
    have HMX := Lib.hid hM
    clear hno hok hX hM
    go_enter Try.func5, Try.ntmps5
    go_wp2_with fail
    refine HLY.out.mono ?_
    rintro e1 w1 ⟨x1, rfl, ho1, k1⟩
    have HI := Lib.hid ho1.ints
    obtain ⟨g1, c1, rfl, hc1, hc2, _, _⟩ := ho1.formNe (by rw [← HMX.out]; exact hM0)
    rw [← HMX.out] at HI hc1 ⊢
    have HX : Hid (∀ i, i < M → w1.cell? ⟨g1, i, none⟩ = some (.int .i64 (X.getD i 0))) := fun i hi => (ho1.at (by rw [← HMX.out]; exact hi)).1
    have K1 := Lib.hid k1
    clear ho1 k1
    go_wp2_with fail
    refine (refMay HI.out).mono ?_
    rw [decide_eq_true HOK.out.may]
    rintro e2 w2 ⟨rfl, hw2⟩
    rw [hw2]
    clear hw2 w2
    go_wp2_with fail
    go_loopw [7, 6] (fun i sv wr => ∃ k : Nat, k ≤ N ∧ i = .int .i64 k ∧ sv = .int .i64 (kTot cs k) ∧ Keeps w1 wr) (fun i _ _ => N - (intOf i).toNat)
    case atStart => exact ⟨0, by omega, rfl, rfl, Fr.refl _ _⟩
    case round =>
      obtain ⟨k, hk, rfl, rfl, hkeep⟩ := hrel
      have hnn : ∀ i, i < N → 0 ≤ cs.getD i 0 := fun i hi => (HB.out i hi).1
      have hsb : 0 ≤ kTot cs k ∧ kTot cs k ≤ 4294967295 * (k : Int) := by
        have h1 := (kTot_nonneg hnn k hk).1
        have h2 : ∀ m, m ≤ N → kTot cs m ≤ 4294967295 * (m : Int) := fun m => by
          induction m with
          | zero => intro _; simp [kTot, sumF]
          | succ m ih =>
            intro hm
            have := ih (by omega)
            have h3 := (HB.out m (by omega)).2
            have e : kTot cs (m + 1) = kTot cs m + cs.getD m 0 := rfl
            omega
        exact ⟨h1, h2 k hk⟩
      have HSN : Hid (kTot cs (k + 1) = kTot cs k + cs.getD k 0) := rfl
      obtain ⟨s, hs⟩ : ∃ s, s = kTot cs k := ⟨_, rfl⟩
      rw [← hs] at hsb HSN ⊢
      have HS := Lib.hid hs
      have KK := Lib.hid hkeep
      clear hs hnn
      by_cases hlt : k < N
      case pos =>
        obtain ⟨b, off, hab, ck⟩ := HC.out k hlt
        subst hab
        have ck := hkeep.cell (fun h => h) (K1.out.cell (fun h => h) ck)
        have hcb := HB.out k hlt
        obtain ⟨c, hcc⟩ : ∃ c, c = cs.getD k 0 := ⟨_, rfl⟩
        rw [← hcc] at ck hcb HSN
        have t1 : (0 : Int) ≤ (k : Int) := by omega
        have t2 : (k : Int) < (N : Int) := by omega
        by_cases hkm : k < M
        · have cx := hkeep.cell (fun h => h) (HX.out k hkm)
          have hpk := HOK.out.pos k (by rw [← HMX.out]; exact hkm)
          obtain ⟨z, hzz⟩ : ∃ z, z = X.getD k 0 := ⟨_, rfl⟩
          rw [← hzz] at cx hpk
          rw [← hcc] at hpk
          have t3 : (k : Int) < (M : Int) := by omega
          have t3' : decide ((k : Int) < (M : Int)) = true := decide_eq_true t3
          clear hcc hzz hkeep
          by_cases h0 : 0 < c
          · have h1 := hpk.2 h0
            have d1 : decide (0 < c) = true := decide_eq_true h0
            have d2 : decide (0 < z) = true := decide_eq_true h1
            clear hpk
            go_wp2_with fail
            go_quiet (fail)
            go_wp2_with fail
            go_roundw
            all_goals go_light
            case rel => exact ⟨k + 1, by omega, by go_num, by rw [HSN.out], KK.out.drewN _⟩
            case measure => simp [intOf]; omega
          · have h1 : ¬ 0 < z := fun hh => h0 (hpk.1 hh)
            have d1 : decide (0 < c) = false := decide_eq_false (by omega)
            have d2 : decide (0 < z) = false := decide_eq_false (by omega)
            clear hpk
            go_wp2_with fail
            go_quiet (fail)
            go_wp2_with fail
            go_roundw
            all_goals go_light
            case rel => exact ⟨k + 1, by omega, by go_num, by rw [HSN.out], KK.out.drewN _⟩
            case measure => simp [intOf]; omega
        · have h0 := HOK.out.zero k (by rw [← HMX.out]; omega) (by rw [← HN.out]; exact hlt)
          rw [← hcc] at h0
          have d1 : decide (0 < c) = false := decide_eq_false (by omega)
          have d2 : decide ((k : Int) < (M : Int)) = false := decide_eq_false (by omega)
          clear hcc hkeep
          go_wp2_with fail
          go_quiet (fail)
          go_wp2_with fail
          go_roundw
          all_goals go_light
          case rel => exact ⟨k + 1, by omega, by go_num, by rw [HSN.out, h0, Int.add_zero], KK.out.drewN _⟩
          case measure => simp [intOf]; omega
      case neg =>
        obtain rfl : k = N := by omega
        have HST : Hid (s ≤ 300 → kTot cs cs.length ≤ 300) := fun h => by rw [← HN.out, ← HS.out]; exact h
        clear hkeep
        go_wp2_with fail
        go_loopw [8] (fun i wr => ∃ p : Nat, p ≤ k ∧ i = .int .i64 p ∧ Keeps w1 wr) (fun i _ => k - (intOf i).toNat)
        case atStart => exact ⟨0, by omega, rfl, KK.out⟩
        case round =>
          obtain ⟨p, hp, rfl, hkp⟩ := hrel
          have KP := Lib.hid hkp
          clear hkp
          by_cases hstop : p < k ∧ s ≤ 300
          case neg =>
            by_cases hpk : p < k
            · have t1 : (p : Int) < (k : Int) := by omega
              have t1' : decide ((p : Int) < (k : Int)) = true := decide_eq_true t1
              have t2 : ¬ s ≤ 300 := fun h => hstop ⟨hpk, h⟩
              have t2' : decide (s ≤ 300) = false := decide_eq_false t2
              go_wp2_with (go_at_call 11; refine (livesHuff _).mono ?_; rintro e w7 ⟨rfl, k7⟩; have K7 := Lib.hid k7; clear k7)
              go_ret
              go_light
              exact ⟨rfl, (K1.out.keeps KP.out).keeps K7.out⟩
            · have t1 : ¬ (p : Int) < (k : Int) := by omega
              have t1' : decide ((p : Int) < (k : Int)) = false := decide_eq_false t1
              go_wp2_with (go_at_call 11; refine (livesHuff _).mono ?_; rintro e w7 ⟨rfl, k7⟩; have K7 := Lib.hid k7; clear k7)
              go_ret
              go_light
              exact ⟨rfl, (K1.out.keeps KP.out).keeps K7.out⟩
          case pos =>
            obtain ⟨hpk, hs300⟩ := hstop
            have HORD := Lib.hid (HOK.out.order (HST.out hs300))
            obtain ⟨b, off, hab, cp⟩ := HC.out p hpk
            subst hab
            have cp := K1.out.cell (fun h => h) cp
            obtain ⟨ca, hca⟩ : ∃ c, c = cs.getD p 0 := ⟨_, rfl⟩
            rw [← hca] at cp
            have HCA := Lib.hid hca
            have t1 : (p : Int) < (k : Int) := by omega
            have t0 : (0 : Int) ≤ (p : Int) := by omega
            clear hca
            go_wp2_with fail
            go_loopw [9] (fun i wr => ∃ q : Nat, q ≤ k ∧ i = .int .i64 q ∧ Keeps w1 wr) (fun i _ => k - (intOf i).toNat)
            case atStart => exact ⟨0, by omega, rfl, KP.out⟩
            case round =>
              obtain ⟨q, hq, rfl, hkq⟩ := hrel
              have KQ := Lib.hid hkq
              by_cases hqk : q < k
              case neg =>
                clear hkq
                go_wp2_with fail
                go_roundw
                all_goals go_light
                case rel => exact ⟨p + 1, by omega, by go_num, KQ.out⟩
                case measure => simp [intOf]; omega
              case pos =>
                obtain ⟨b2, off2, hab2, cq⟩ := HC.out q hqk
                cases hab2
                have cq := hkq.cell (fun h => h) (K1.out.cell (fun h => h) cq)
                have cp := hkq.cell (fun h => h) cp
                have HXP : Hid (p < M → wr.cell? ⟨g1, p, none⟩ = some (.int .i64 (X.getD p 0))) := fun h => hkq.cell (fun h => h) (HX.out p h)
                have HXQ : Hid (q < M → wr.cell? ⟨g1, q, none⟩ = some (.int .i64 (X.getD q 0))) := fun h => hkq.cell (fun h => h) (HX.out q h)
                obtain ⟨cc, hcc⟩ : ∃ c, c = cs.getD q 0 := ⟨_, rfl⟩
                rw [← hcc] at cq
                have HCC := Lib.hid hcc
                have u1 : (q : Int) < (k : Int) := by omega
                have u0 : (0 : Int) ≤ (q : Int) := by omega
                clear hcc hkq
                by_cases h1 : cc < ca
                case neg =>
                  have d1 : decide (cc < ca) = false := decide_eq_false h1
                  go_wp2_with fail
                  go_quiet (fail)
                  go_wp2_with fail
                  go_roundw
                  all_goals go_light
                  case rel => exact ⟨q + 1, by omega, by go_num, KQ.out.drewN _⟩
                  case measure => simp [intOf]; omega
                case pos =>
                  have d1 : decide (cc < ca) = true := decide_eq_true h1
                  by_cases h2 : 0 < cc
                  case neg =>
                    have d2 : decide (0 < cc) = false := decide_eq_false h2
                    go_wp2_with fail
                    go_quiet (fail)
                    go_wp2_with fail
                    go_roundw
                    all_goals go_light
                    case rel => exact ⟨q + 1, by omega, by go_num, KQ.out.drewN _⟩
                    case measure => simp [intOf]; omega
                  case pos =>
                    have d2 : decide (0 < cc) = true := decide_eq_true h2
                    have hpM : p < M := by
                      by_cases hh : p < M
                      · exact hh
                      · have := HOK.out.zero p (by rw [← HMX.out]; omega) (by rw [← HN.out]; exact hpk)
                        rw [← HCA.out] at this
                        omega
                    have hqM : q < M := by
                      by_cases hh : q < M
                      · exact hh
                      · have := HOK.out.zero q (by rw [← HMX.out]; omega) (by rw [← HN.out]; exact hqk)
                        rw [← HCC.out] at this
                        omega
                    have xp := HXP.out hpM
                    have xq := HXQ.out hqM
                    have hord := HORD.out p q (by rw [← HMX.out]; exact hpM) (by rw [← HMX.out]; exact hqM) (by rw [← HCC.out, ← HCA.out]; exact h1) (by rw [← HCC.out]; exact h2)
                    obtain ⟨za, hza⟩ : ∃ z, z = X.getD p 0 := ⟨_, rfl⟩
                    obtain ⟨zb, hzb⟩ : ∃ z, z = X.getD q 0 := ⟨_, rfl⟩
                    rw [← hza] at xp hord
                    rw [← hzb] at xq hord
                    have d3 : decide (zb < za) = false := decide_eq_false (by omega)
                    have v1 : (p : Int) < (M : Int) := by omega
                    have v2 : (q : Int) < (M : Int) := by omega
                    clear hza hzb
                    go_wp2_with fail
                    go_quiet (fail)
                    go_wp2_with fail
                    go_roundw
                    all_goals go_light
                    case rel => exact ⟨q + 1, by omega, by go_num, KQ.out.drewN _⟩
                    case measure => simp [intOf]; omega
end Go.Proofs.Ytbbljpkboojjhaa
