/- The reference's Lengths. -/
import Derived.Test.YtbbljpkboojjhaaRtWalk
import Derived.Test.YtbbljpkboojjhaaHfLen
namespace Go.Proofs.Ytbbljpkboojjhaa
open Go.RowKit

set_option maxRecDepth 100000 in
set_option maxHeartbeats 4000000 in
theorem refLengths {v : Value} {cs : List Int} {w : World} (h : Ints .i64 w v cs) (hsm : cs.length ≤ 17592186043904) :
    Calls Try.prog 9 #[v] w fun e w' => ∃ x, e = .returned (.tuple #[x, .int .i64 (if csMay cs then 0 else 1)]) ∧ Own .i64 3 w.heap.size w' x (if csMay cs then lengthsS cs else []) ∧ Keeps w w' := by
  have HV := Lib.hid h
  obtain ⟨_, a, cap, rfl, hcap, hmax, _, hc⟩ := h
  have HC := Lib.hid hc
  obtain ⟨N, hN⟩ : ∃ N, N = cs.length := ⟨_, rfl⟩
  rw [← hN] at hcap HC HV hsm ⊢
  have HN := Lib.hid hN
  obtain ⟨RX, hRX⟩ : ∃ R, R = (if csMay cs then lengthsS cs else []) := ⟨_, rfl⟩
  obtain ⟨RE, hRE⟩ : ∃ R, R = (if csMay cs then (0 : Int) else 1) := ⟨_, rfl⟩
  rw [← hRX, ← hRE]
  have HNO : Hid (¬ csMay cs → RX = [] ∧ RE = 1) := fun h => by rw [hRX, hRE, if_neg h, if_neg h]; exact ⟨rfl, rfl⟩
  have HYES : Hid (csMay cs → RX = lengthsS cs ∧ RE = 0) := fun h => by rw [hRX, hRE, if_pos h, if_pos h]; exact ⟨rfl, rfl⟩
  unfold maxLen at hmax
  clear hc hN hRX hRE
  by_cases h256 : 256 < N
  case pos =>
    have td : decide (256 < (N : Int)) = true := decide_eq_true (by omega)
    have td2 : (256 : Int) < (N : Int) := by omega
    obtain ⟨e1, e2⟩ := HNO.out (fun h => by have := h.1; have := HN.out; omega)
    subst e1
    subst e2
    go_enter Try.func9, Try.ntmps9
    go_wp2_with fail
    go_ret2
    go_light
    exact ⟨_, rfl, Own.nil _ _ _ _, Fr.refl _ _⟩
  case neg =>
    have td : decide (256 < (N : Int)) = false := decide_eq_false (by omega)
    have td2 : ¬ (256 : Int) < (N : Int) := by omega
    go_enter Try.func9, Try.ntmps9
    go_wp2_with fail
    go_loopw [5, 4] (fun iv lv wr => ∃ k : Nat, k ≤ N ∧ iv = .int .i64 k ∧ lv = .int .i64 ((lastK cs k : Int) - 1) ∧ (∀ i, i < k → 0 ≤ cs.getD i 0 ∧ cs.getD i 0 ≤ 4294967295) ∧ wr = w) (fun iv _ _ => N - (intOf iv).toNat)
    case atStart => exact ⟨0, by omega, rfl, rfl, fun i hi => by omega, rfl⟩
    case round =>
      obtain ⟨k, hkN, rfl, rfl, hall, hwr⟩ := hrel
      rw [hwr]
      clear hwr
      have HA := Lib.hid hall
      have hlk := lastK_le cs k
      have HST : Hid (lastK cs (k + 1) = if cs.getD k 0 = 0 then lastK cs k else k + 1) := rfl
      obtain ⟨M, hM⟩ : ∃ M, M = lastK cs k := ⟨_, rfl⟩
      rw [← hM] at HST hlk ⊢
      have HMM := Lib.hid hM
      clear hall hM
      by_cases hlt : k < N
      case pos =>
        obtain ⟨b, off, hab, ck⟩ := HC.out k hlt
        subst hab
        have HBAD : Hid (¬ (0 ≤ cs.getD k 0 ∧ cs.getD k 0 ≤ 4294967295) → ¬ csMay cs) := fun h h2 => h (h2.2.1 k (by rw [← HN.out]; exact hlt))
        have HNX : Hid (0 ≤ cs.getD k 0 ∧ cs.getD k 0 ≤ 4294967295 → ∀ i, i < k + 1 → 0 ≤ cs.getD i 0 ∧ cs.getD i 0 ≤ 4294967295) := fun h i hi => by
          by_cases e : i = k
          · subst e; exact h
          · exact HA.out i (by omega)
        obtain ⟨z, hz⟩ : ∃ z, z = cs.getD k 0 := ⟨_, rfl⟩
        rw [← hz] at ck HST HBAD HNX
        have ti1 : (k : Int) < (N : Int) := by omega
        clear hz
        by_cases h0 : z < 0
        · have t1 : decide (z < 0) = true := decide_eq_true h0
          obtain ⟨e1, e2⟩ := HNO.out (HBAD.out (by omega))
          subst e1
          subst e2
          go_wp2_with fail
          go_ret2
          go_light
          exact ⟨_, rfl, Own.nil _ _ _ _, Fr.refl _ _⟩
        · have t1 : decide (z < 0) = false := decide_eq_false h0
          by_cases h1 : 4294967295 < z
          · have t2 : decide (4294967295 < z) = true := decide_eq_true h1
            obtain ⟨e1, e2⟩ := HNO.out (HBAD.out (by omega))
            subst e1
            subst e2
            go_wp2_with fail
            go_ret2
            go_light
            exact ⟨_, rfl, Own.nil _ _ _ _, Fr.refl _ _⟩
          · have t2 : decide (4294967295 < z) = false := decide_eq_false h1
            by_cases h2 : 0 < z
            · have t3 : decide (0 < z) = true := decide_eq_true h2
              rw [if_neg (by omega)] at HST
              go_wp2_with fail
              go_roundw
              all_goals go_light
              case rel => exact ⟨k + 1, by omega, by go_num, by rw [HST.out]; congr 1; omega, HNX.out (by omega), trivial⟩
              case measure => simp [intOf]; omega
            · have t3 : decide (0 < z) = false := decide_eq_false h2
              rw [if_pos (by omega)] at HST
              go_wp2_with fail
              go_roundw
              all_goals go_light
              case rel => exact ⟨k + 1, by omega, by go_num, by rw [HST.out], HNX.out (by omega), trivial⟩
              case measure => simp [intOf]; omega
      case neg =>
        obtain rfl : k = N := by omega
        by_cases hM0 : M = 0
        case pos =>
          have t1 : decide ((M : Int) - 1 < 0) = true := decide_eq_true (by omega)
          have t1' : (M : Int) - 1 < 0 := by omega
          obtain ⟨e1, e2⟩ := HNO.out (fun h => by have := h.2.2; rw [← HN.out, ← HMM.out] at this; omega)
          subst e1
          subst e2
          go_wp2_with fail
          go_ret2
          go_light
          exact ⟨_, rfl, Own.nil _ _ _ _, Fr.refl _ _⟩
        case neg =>
          obtain ⟨j, rfl⟩ : ∃ j, M = j + 1 := ⟨M - 1, by omega⟩
          have hmay : csMay cs := ⟨by rw [← HN.out]; omega, by rw [← HN.out]; exact HA.out, by rw [← HN.out, ← HMM.out]; omega⟩
          obtain ⟨e1, e2⟩ := HYES.out hmay
          have HR : Hid (RX = lenS 32 (cs.take (j + 1))) := by show _ = _; rw [e1, HMM.out, HN.out]; rfl
          have hfit := Fit.start hmay
          rw [← HN.out, ← HMM.out] at hfit
          have HFIT := Lib.hid hfit
          subst e2
          have ts : (((j + 1 : Nat) : Int) - 1) = (j : Int) := by omega
          have t1 : decide ((j : Int) < 0) = false := decide_eq_false (by omega)
          have HTK := Lib.hid (HV.out.take (j := j + 1) hlk)
          have HCT : Hid ((cs.take (j + 1)).length = j + 1) := by show _ = _; rw [List.length_take, ← HN.out]; omega
          have hjc : j + 1 ≤ cap := by omega
          have hjc2 : (j : Int) + 1 ≤ (cap : Int) := by omega
          clear hmay e1 hfit
          go_wp2_with (at_builtin; go_loud (refine wpList_ints rfl (.tmp 39) (.tmp 43) rfl elemI (.slice none 0 0) rfl rfl (Own.nil .i64 3 w.heap.size _) HTK.out (by rw [HCT.out, List.length_nil]; omega) (Nat.le_refl _) ?_); intro v1 w1 hown1 hfr1 hat1; rw [List.nil_append] at hown1; obtain ⟨g, c1, hv1, hc1, hc2, hg, _⟩ := hown1.formNe (by rw [HCT.out]; omega); rw [HCT.out] at hv1 hc1; subst hv1; have kk1 := own_nil_keeps hfr1; have HOT := Lib.hid hown1; have K1 := Lib.hid kk1; clear hown1 hfr1 hat1 kk1)
          go_loopg [] 32 (fun m wr => ∃ own : List Int, Own .i64 3 w.heap.size wr (.slice (some ⟨g, 0, none⟩) (j + 1) c1) own ∧ own.length = j + 1 ∧ Fit m own ∧ RX = lenS m own ∧ Keeps w wr)
          case atStart => exact ⟨cs.take (j + 1), HOT.out, HCT.out, HFIT.out, HR.out, K1.out⟩
          case round =>
            obtain ⟨own, hown, hlen, hfit, hr, hkp⟩ := hrel
            have HO := Lib.hid hown
            have HF := Lib.hid hfit
            have HRO := Lib.hid hr
            have HK := Lib.hid hkp
            have HLN := Lib.hid hlen
            have hsz := hkp.size
            clear hown hlen hfit hr hkp
            go_wp2_with fail
            refine (refTree HO.out.ints HF.out.ok HF.out.last.1).mono ?_
            rintro e3 w3 ⟨x3, y, rfl, hyi, o3, k3⟩
            have hl3 : (treeS own).length = j + 1 := by rw [treeS_length]; exact HLN.out
            obtain ⟨g3, c3, hv3, _, _, hg3, _⟩ := o3.formNe (by omega)
            rw [hl3] at hv3
            subst hv3
            have HO3 := Lib.hid o3
            have HOW := Lib.hid (HO.out.keeps k3)
            have HK3 : Hid (Keeps w w3) := HK.out.trans k3 (fun _ _ h => h)
            have HYI := Lib.hid hyi
            clear o3 k3 hl3 hyi
            by_cases hy11 : y ≤ 11
            case pos =>
              have td : decide (y ≤ 11) = true := decide_eq_true hy11
              have HRE : Hid (RX = treeS own) := by
                show _ = _
                rw [HRO.out]
                match gk with
                | 0 => rfl
                | m + 1 => simp only [lenS]; rw [if_pos (HYI.out.1 hy11)]
              go_wp2_with fail
              go_ret2
              go_light
              exact ⟨_, rfl, by rw [HRE.out]; exact HO3.out.mono hsz, HK3.out⟩
            case neg =>
              obtain ⟨m, hm⟩ : ∃ m, gk = m + 1 := by
                rcases Nat.eq_zero_or_pos gk with h | h
                · subst h
                  exact absurd (HYI.out.2 HF.out.done) hy11
                · exact ⟨gk - 1, by omega⟩
              subst hm
              have td : decide (y ≤ 11) = false := decide_eq_false hy11
              have HRE : Hid (RX = lenS m (own.map halfC)) := by
                show _ = _
                rw [HRO.out]
                simp only [lenS]
                rw [if_neg (fun h => hy11 (HYI.out.2 h))]
              go_wp2_with fail
              go_loopw [9] (fun iv wx => ∃ i : Nat, i ≤ j + 1 ∧ iv = .int .i64 i ∧ Own .i64 3 w.heap.size wx (.slice (some ⟨g, 0, none⟩) (j + 1) c1) (hk own i) ∧ Keeps w wx) (fun iv _ => (j + 1) - (intOf iv).toNat)
              case atStart => exact ⟨0, by omega, rfl, HOW.out, HK3.out⟩
              case round =>
                obtain ⟨i, hi, rfl, hox, hkx⟩ := hrel
                have HOX := Lib.hid hox
                have HKX := Lib.hid hkx
                have HLX : Hid ((hk own i).length = j + 1) := by show _ = _; rw [hk_length]; exact HLN.out
                clear hox hkx
                by_cases hlt2 : i < j + 1
                case pos =>
                  obtain ⟨ci, fi⟩ := HOX.out.at (i := i) (by rw [HLX.out]; exact hlt2)
                  have hio : i < own.length := by rw [HLN.out]; exact hlt2
                  rw [hk_get own i i hio (by omega), if_neg (by omega)] at ci
                  have hbz := HF.out.ok.bound i hio
                  have HSA := Lib.hid (hk_same (cs := own) hio)
                  obtain ⟨z2, hz2⟩ : ∃ z, z = own.getD i 0 := ⟨_, rfl⟩
                  rw [← hz2] at ci hbz HSA
                  have HZ2 := Lib.hid hz2
                  clear hz2 hio
                  have ti2 : (i : Int) < ((j + 1 : Nat) : Int) := by omega
                  by_cases hp2 : 0 < z2
                  case neg =>
                    have td2 : decide (0 < z2) = false := decide_eq_false hp2
                    go_wp2_with fail
                    go_roundw
                    all_goals go_light
                    case rel => exact ⟨i + 1, by omega, by go_num, by rw [HSA.out hp2]; exact HOX.out, HKX.out⟩
                    case measure => simp [intOf]; omega
                  case pos =>
                    have td2 : decide (0 < z2) = true := decide_eq_true hp2
                    obtain ⟨y2, hy2⟩ : ∃ y2, z2.tdiv 2 = y2 := ⟨_, rfl⟩
                    have hyy : y2 = z2 / 2 := by rw [← hy2, Int.tdiv_eq_ediv_of_nonneg (by omega)]
                    have hyb : 0 ≤ y2 ∧ y2 ≤ 4294967296 := by omega
                    have HSET := Lib.hid (HOX.out.set i (y := y2 + 1) (by simp [Lit.wf, IntKind.min, IntKind.max, IntKind.signed, IntKind.bits]; omega))
                    have HNX : Hid ((hk own i).set i (y2 + 1) = hk own (i + 1)) := by
                      show _ = _
                      simp only [hk]
                      rw [← HZ2.out]
                      unfold halfC
                      rw [if_pos hp2, hyy]
                    have HG : Hid (w.heap.size ≤ g) := hg
                    clear hyy
                    go_wp2_with fail
                    go_roundw
                    all_goals go_light
                    case rel =>
                      refine ⟨i + 1, by omega, by go_num, by rw [← HNX.out]; exact HSET.out, HKX.out.setCell (p := ⟨g, i, none⟩) (fun h => ?_) _⟩
                      have h : g < w.heap.size := h
                      have := HG.out
                      omega
                    case measure => simp [intOf]; omega
                case neg =>
                  obtain rfl : i = j + 1 := by omega
                  have HHK : Hid (hk own (j + 1) = own.map halfC) := by show _ = _; rw [← HLN.out]; exact hk_all own
                  go_wp2_with fail
                  go_roundg m
                  case measure => omega
                  case rel => exact ⟨own.map halfC, by rw [← HHK.out]; exact HOX.out, by rw [List.length_map]; exact HLN.out, HF.out.half, HRE.out, HKX.out⟩
end Go.Proofs.Ytbbljpkboojjhaa
