/- HuffBest: the walk. -/
import Derived.Test.YtbbljpkboojjhaaHfLives
import Derived.Test.YtbbljpkboojjhaaHfMayR
import Derived.Test.YtbbljpkboojjhaaHfBestP
import Derived.BigQuiet
namespace Go.Proofs.Ytbbljpkboojjhaa
open Go.RowKit

set_option maxRecDepth 100000 in
set_option maxHeartbeats 8000000 in
theorem walkHuffBest {v u : Value} {cs os : List Int} {w : World} (h : Ints .i64 w v cs) (hu : Ints .i64 w u os) (hz : cs.length ≤ 17592186043904) :
    Calls Try.prog 7 #[v, u] w fun e w' => e = .returned (.bool true) ∧ Keeps w w' := by
  have HV := Lib.hid h
  have HU := Lib.hid hu
  obtain ⟨_, a, cap, rfl, hcap, hmax, _, hc⟩ := h
  obtain ⟨_, a2, cap2, rfl, hcap2, hmax2, _, hc2⟩ := hu
  have HC := Lib.hid hc
  have HC2 := Lib.hid hc2
  obtain ⟨N, hN⟩ : ∃ N, N = cs.length := ⟨_, rfl⟩
  obtain ⟨O, hO⟩ : ∃ O, O = os.length := ⟨_, rfl⟩
  rw [← hN] at hcap HC HV ⊢
  rw [← hO] at hcap2 HC2 HU ⊢
  have HN := Lib.hid hN
  have HO := Lib.hid hO
  unfold maxLen at hmax hmax2
  have HZ : Hid (cs.length ≤ 17592186043904) := hz
  clear hc hc2 hN hO hz
  by_cases hno : csMay cs
  case neg =>
    have HNO := Lib.hid hno
    clear hno
    go_enter Try.func7, Try.ntmps7
    go_wp2_with fail
    refine (lengthsNo HV.out HZ.out HNO.out).mono ?_
    rintro e1 w1 ⟨rfl, k1⟩
    have K1 := Lib.hid k1
    clear k1
    go_wp2_with fail
    refine (refMay (HU.out.keeps K1.out)).mono ?_
    rintro e2 w2 ⟨rfl, hw2⟩
    rw [hw2]
    clear hw2 w2
    go_wp2_with (go_at_call 11; refine (livesHuff _).mono ?_; rintro e w7 ⟨rfl, k7⟩; have K7 := Lib.hid k7; clear k7)
    go_ret
    go_light
    exact ⟨rfl, K1.out.keeps K7.out⟩
  case pos =>
    have hok := lengths_ok hno
    have HLY := Lib.hid (lengthsYes HV.out hno)
    have HB : Hid (∀ i, i < N → 0 ≤ cs.getD i 0 ∧ cs.getD i 0 ≤ 4294967295) := by rw [HN.out]; exact hno.2.1
    have hN256 : N ≤ 256 := by rw [HN.out]; exact hno.1
    have HNO := Lib.hid hno
    obtain ⟨X, hX⟩ : ∃ X, X = lengthsS cs := ⟨_, rfl⟩
    rw [← hX] at hok HLY
    have HXE := Lib.hid hX
    obtain ⟨M, hM⟩ : ∃ M, M = X.length := ⟨_, rfl⟩
    have hMN : M ≤ N := by have := hok.len; have := lastK_le cs cs.length; have := HN.out; omega
    have hM0 : 0 < M := by rw [hM]; exact hok.may.1.1
    have HOK := Lib.hid hok
    have HMX := Lib.hid hM
    clear hno hok hX hM
    go_enter Try.func7, Try.ntmps7
    go_wp2_with fail
    refine HLY.out.mono ?_
    rintro e1 w1 ⟨x1, rfl, ho1, k1⟩
    obtain ⟨g1, c1, rfl, hc1, hc1', _, _⟩ := ho1.formNe (by rw [← HMX.out]; exact hM0)
    rw [← HMX.out] at hc1 ⊢
    have HX : Hid (∀ i, i < M → w1.cell? ⟨g1, i, none⟩ = some (.int .i64 (X.getD i 0))) := fun i hi => (ho1.at (by rw [← HMX.out]; exact hi)).1
    have K1 := Lib.hid k1
    clear ho1 k1
    go_wp2_with fail
    refine (refMay (HU.out.keeps K1.out)).mono ?_
    rintro e2 w2 ⟨rfl, hw2⟩
    rw [hw2]
    clear hw2 w2
    by_cases hom : HMay os
    case neg =>
      have hod : decide (HMay os) = false := decide_eq_false hom
      rw [hod]
      clear hod hom
      go_wp2_with (go_at_call 11; refine (livesHuff _).mono ?_; rintro e w7 ⟨rfl, k7⟩; have K7 := Lib.hid k7; clear k7)
      go_ret
      go_light
      exact ⟨rfl, K1.out.keeps K7.out⟩
    case pos =>
      have hod : decide (HMay os) = true := decide_eq_true hom
      rw [hod]
      have HOM := Lib.hid hom
      clear hod hom
      go_wp2_with fail
      go_loopw [11, 8, 9, 10] (fun i sv mv tv wr => ∃ (k : Nat) (mi th : Int), k ≤ N ∧ i = .int .i64 k ∧ sv = .int .i64 (kTot cs k) ∧ mv = .int .i64 mi ∧ tv = .int .i64 th ∧ (kTot cs k ≤ 300 → mi = kMul cs X k ∧ th = kMul cs os k ∧ ∀ i, i < k → 0 < cs.getD i 0 → i < O ∧ 0 < os.getD i 0) ∧ Keeps w1 wr) (fun i _ _ _ _ => N - (intOf i).toNat)
      case atStart => exact ⟨0, 0, 0, by omega, rfl, rfl, rfl, rfl, fun _ => ⟨rfl, rfl, fun i hi => by omega⟩, Fr.refl _ _⟩
      case round =>
        obtain ⟨k, mi, th, hk, rfl, rfl, rfl, rfl, hinv, hkeep⟩ := hrel
        have hnn : ∀ i, i < N → 0 ≤ cs.getD i 0 := fun i hi => (HB.out i hi).1
        have hsb : 0 ≤ kTot cs k ∧ kTot cs k ≤ 4294967295 * (k : Int) := by
          have h1 := (kTot_nonneg hnn k hk).1
          have h2 : ∀ m, m ≤ N → kTot cs m ≤ 4294967295 * (m : Int) := fun m => by
            induction m with
            | zero => intro _; simp [kTot, sumF]
            | succ m ih =>
              intro hm
              have := ih (by omega)
              have h3 := (HB.out m (by omega)).2
              have e : kTot cs (m + 1) = kTot cs m + cs.getD m 0 := rfl
              omega
          exact ⟨h1, h2 k hk⟩
        have hm1 := kMul_bound hnn (inK_all HOK.out.may.2.1) k hk
        have hm2 := kMul_bound hnn (inK_all HOM.out.2.1) k hk
        have HSN : Hid (kTot cs (k + 1) = kTot cs k + cs.getD k 0) := rfl
        have HMN : Hid (kMul cs X (k + 1) = kMul cs X k + cs.getD k 0 * X.getD k 0) := rfl
        have HTN : Hid (kMul cs os (k + 1) = kMul cs os k + cs.getD k 0 * os.getD k 0) := rfl
        obtain ⟨s, hs⟩ : ∃ s, s = kTot cs k := ⟨_, rfl⟩
        rw [← hs] at hsb HSN hinv hm1 hm2 ⊢
        have HS := Lib.hid hs
        have KK := Lib.hid hkeep
        have HINV := Lib.hid hinv
        have HMB : Hid (0 ≤ kMul cs X k ∧ kMul cs X k ≤ 11 * s ∧ 0 ≤ kMul cs os k ∧ kMul cs os k ≤ 11 * s) := ⟨hm1.1, hm1.2, hm2.1, hm2.2⟩
        clear hs hnn hinv hm1 hm2
        by_cases hlt : k < N
        case pos =>
          obtain ⟨b, off, hab, ck⟩ := HC.out k hlt
          subst hab
          have ck := hkeep.cell (fun h => h) (K1.out.cell (fun h => h) ck)
          have hcb := HB.out k hlt
          have HNI : Hid (s + cs.getD k 0 ≤ 300 → (0 < cs.getD k 0 → k < O ∧ 0 < os.getD k 0) → ∀ i, i < k + 1 → 0 < cs.getD i 0 → i < O ∧ 0 < os.getD i 0) := fun h1 h2 i hi hp => by
            by_cases e : i = k
            · subst e; exact h2 hp
            · exact (HINV.out (by omega)).2.2 i (by omega) hp
          have HPX : Hid (0 < cs.getD k 0 → k < M) := fun hp => by
            by_cases hh : k < M
            · exact hh
            · have := HOK.out.zero k (by rw [← HMX.out]; omega) (by rw [← HN.out]; exact hlt)
              omega
          have HOC : Hid (k < O → ∃ b off, a2 = some ⟨b, off, none⟩ ∧ wr.cell? ⟨b, off + k, none⟩ = some (.int .i64 (os.getD k 0))) := fun h => by
            obtain ⟨b2, off2, e2, c2⟩ := HC2.out k h
            exact ⟨b2, off2, e2, hkeep.cell (fun h => h) (K1.out.cell (fun h => h) c2)⟩
          have HXC : Hid (k < M → wr.cell? ⟨g1, k, none⟩ = some (.int .i64 (X.getD k 0))) := fun h => hkeep.cell (fun h => h) (HX.out k h)
          obtain ⟨c, hcc⟩ : ∃ c, c = cs.getD k 0 := ⟨_, rfl⟩
          rw [← hcc] at ck hcb HSN HMN HTN HNI HPX
          have t1 : (0 : Int) ≤ (k : Int) := by omega
          have t2 : (k : Int) < (N : Int) := by omega
          clear hcc hkeep
          by_cases hc0 : c = 0
          · subst hc0
            go_wp2_with fail
            go_roundw
            all_goals go_light
            case rel => exact ⟨k + 1, mi, th, by omega, by go_num, by rw [HSN.out, Int.add_zero], rfl, rfl, fun h => by
              rw [HSN.out] at h
              obtain ⟨h1, h2, _⟩ := HINV.out (by omega)
              exact ⟨by rw [HMN.out, Int.zero_mul, Int.add_zero]; exact h1, by rw [HTN.out, Int.zero_mul, Int.add_zero]; exact h2, HNI.out h (fun h => by omega)⟩, KK.out⟩
            case measure => simp [intOf]; omega
          · have tc : (c == 0) = false := by simp; exact hc0
            by_cases hbig : 300 < s + c
            · have td : decide (300 < s + c) = true := decide_eq_true hbig
              go_wp2_with fail
              go_roundw
              all_goals go_light
              case rel => exact ⟨k + 1, mi, th, by omega, by go_num, by rw [HSN.out], rfl, rfl, fun h => by rw [HSN.out] at h; omega, KK.out⟩
              case measure => simp [intOf]; omega
            · have td : decide (300 < s + c) = false := decide_eq_false hbig
              have hs300 : s ≤ 300 := by omega
              obtain ⟨e1, e2, _⟩ := HINV.out hs300
              have hmb := HMB.out
              rw [← e1, ← e2] at hmb
              rw [← e1] at HMN
              rw [← e2] at HTN
              have hkM := HPX.out (by omega)
              have xk := HXC.out hkM
              have hxb := inK_all HOK.out.may.2.1 k
              have hob := inK_all HOM.out.2.1 k
              have HMN := HMN
              obtain ⟨x, hx⟩ : ∃ x, x = X.getD k 0 := ⟨_, rfl⟩
              rw [← hx] at xk hxb HMN
              have td2 : decide ((M : Int) ≤ (k : Int)) = false := decide_eq_false (by omega)
              have td2' : decide (M ≤ k) = false := decide_eq_false (by omega)
              have t3 : (k : Int) < (M : Int) := by omega
              clear hx e1 e2
              by_cases hkO : k < O
              case neg =>
                have td3 : decide ((O : Int) ≤ (k : Int)) = true := decide_eq_true (by omega)
                have td3' : decide (O ≤ k) = true := decide_eq_true (by omega)
                go_wp2_with (go_at_call 11; refine (livesHuff _).mono ?_; rintro e w7 ⟨rfl, k7⟩; have K7 := Lib.hid k7; clear k7)
                go_ret
                go_light
                exact ⟨rfl, (K1.out.keeps KK.out).keeps K7.out⟩
              case pos =>
                obtain ⟨b2, off2, ha2, ok⟩ := HOC.out hkO
                subst ha2
                obtain ⟨y, hy⟩ : ∃ y, y = os.getD k 0 := ⟨_, rfl⟩
                rw [← hy] at ok hob HTN HNI
                have td3 : decide ((O : Int) ≤ (k : Int)) = false := decide_eq_false (by omega)
                have td3' : decide (O ≤ k) = false := decide_eq_false (by omega)
                have t4 : (k : Int) < (O : Int) := by omega
                clear hy
                by_cases hy0 : y = 0
                · subst hy0
                  go_wp2_with (go_at_call 11; refine (livesHuff _).mono ?_; rintro e w7 ⟨rfl, k7⟩; have K7 := Lib.hid k7; clear k7)
                  go_ret
                  go_light
                  exact ⟨rfl, (K1.out.keeps KK.out).keeps K7.out⟩
                · have ty : (y == 0) = false := by simp; exact hy0
                  have p1 := Int.mul_nonneg hcb.1 hxb.1
                  have p2 := Int.mul_le_mul_of_nonneg_left hxb.2 hcb.1
                  have p3 := Int.mul_nonneg hcb.1 hob.1
                  have p4 := Int.mul_le_mul_of_nonneg_left hob.2 hcb.1
                  obtain ⟨cx, hcx⟩ : ∃ z, c * x = z := ⟨_, rfl⟩
                  obtain ⟨cy, hcy⟩ : ∃ z, c * y = z := ⟨_, rfl⟩
                  rw [hcx] at p1 p2 HMN
                  rw [hcy] at p3 p4 HTN
                  go_wp2_with fail
                  go_quiet (fail)
                  go_wp2_with fail
                  go_quiet (fail)
                  go_wp2_with fail
                  go_roundw
                  all_goals go_light
                  case rel => exact ⟨k + 1, mi + cx, th + cy, by omega, by go_num, by rw [HSN.out], by go_num, by go_num, fun _ => ⟨HMN.out.symm, HTN.out.symm, HNI.out (by omega) (fun _ => ⟨hkO, by omega⟩)⟩, KK.out.drewN _⟩
                  case measure => simp [intOf]; omega
        case neg =>
          obtain rfl : k = N := by omega
          have HBE : Hid (s ≤ 300 → mi ≤ th) := fun h => by
            obtain ⟨e1, e2, e3⟩ := HINV.out h
            rw [e1, e2, HXE.out, HN.out]
            refine lengths_best HNO.out (by rw [← HN.out, ← HS.out]; exact h) HOM.out (fun i hi hp => ?_)
            rw [← HO.out]
            exact e3 i (by rw [HN.out]; exact hi) hp
          clear hkeep
          by_cases hbig : 300 < s
          · have td : decide (300 < s) = true := decide_eq_true hbig
            go_wp2_with (go_at_call 11; refine (livesHuff _).mono ?_; rintro e w7 ⟨rfl, k7⟩; have K7 := Lib.hid k7; clear k7)
            go_ret
            go_light
            exact ⟨rfl, (K1.out.keeps KK.out).keeps K7.out⟩
          · have td : decide (300 < s) = false := decide_eq_false hbig
            have hle := HBE.out (by omega)
            have td2 : decide (mi ≤ th) = true := decide_eq_true hle
            go_wp2_with (go_at_call 11; refine (livesHuff _).mono ?_; rintro e w7 ⟨rfl, k7⟩; have K7 := Lib.hid k7; clear k7)
            go_ret
            go_light
            exact ⟨rfl, (K1.out.keeps KK.out).keeps K7.out⟩
end Go.Proofs.Ytbbljpkboojjhaa
