/- FseWhole: the walk. -/
import Derived.Test.YtjdpijjoblfoaaaFseLives
import Derived.Test.YtjdpijjoblfoaaaFseMayR
import Derived.Test.YtjdpijjoblfoaaaShareP
import Derived.BigQuiet
namespace Go.Proofs.Ytjdpijjoblfoaaa
open Go.RowKit

set_option maxRecDepth 100000 in
set_option maxHeartbeats 4000000 in
theorem walkFseWhole {v : Value} {cs : List Int} {log : Int} {w : World} (h : Ints .i64 w v cs) (hw : -9223372036854775808 ≤ log ∧ log ≤ 9223372036854775807) :
    Calls Try.prog 4 #[v, .int .i64 log] w fun e w' => e = .returned (.bool true) ∧ Keeps w w' := by
  have HV := Lib.hid h
  obtain ⟨_, a, cap, rfl, hcap, hmax, _, hc⟩ := h
  have HC := Lib.hid hc
  obtain ⟨N, hN⟩ : ∃ N, N = cs.length := ⟨_, rfl⟩
  rw [← hN] at hcap HC HV ⊢
  have HN := Lib.hid hN
  unfold maxLen at hmax
  clear hc hN
  by_cases hno : ShNo cs log
  · have e : Hid (shareS cs log = ([], 1)) := by show _ = _; rw [shareS, if_pos hno]
    clear hno
    go_enter Try.func4, Try.ntmps4
    go_wp2_with fail
    refine (fseShare HV.out hw).mono ?_
    rw [e.out]
    rintro e1 w1 ⟨x1, rfl, ho1, k1⟩
    obtain ⟨a1, c1, rfl⟩ := ho1.form
    have K1 := Lib.hid k1
    clear ho1 k1
    go_wp2_with (go_at_call 12; refine (livesFse _).mono ?_; rintro e w7 ⟨rfl, k7⟩; have K7 := Lib.hid k7; clear k7)
    go_ret
    go_light
    exact ⟨rfl, K1.out.keeps K7.out⟩
  · obtain ⟨hm, hl, hp⟩ := share_whole hno
    have hpw := shNo_not hno
    obtain ⟨X, hX⟩ : ∃ X, X = shareO cs (2 ^ log.toNat) := ⟨_, rfl⟩
    have e : Hid (shareS cs log = (X, 0)) := by show _ = _; rw [shareS, if_neg hno, hX]
    rw [← hX] at hm hl hp
    obtain ⟨M, hM⟩ : ∃ M, M = X.length := ⟨_, rfl⟩
    have hMN : M ≤ N := by have := tlen_le cs cs.length; have := HN.out; omega
    have hM0 : 0 < M := by have := hm.2.2.1; omega
    have HP : Hid (∀ i, i < M → (0 < X.getD i 0 ↔ 0 < cs.getD i 0)) := fun i hi => hp i (by omega)
    have HZ : Hid (∀ i, M ≤ i → i < N → ¬ 0 < cs.getD i 0) := fun i h1 h2 => tlen_zero cs cs.length i (by omega) (by have := HN.out; omega)
    have HM := Lib.hid hm
    have HMX := Lib.hid hM
    clear hno hm hl hp hX hM hpw
    go_enter Try.func4, Try.ntmps4
    go_wp2_with fail
    refine (fseShare HV.out hw).mono ?_
    rw [e.out]
    rintro e1 w1 ⟨x1, rfl, ho1, k1⟩
    have HI := Lib.hid ho1.ints
    obtain ⟨g1, c1, rfl, hc1, hc2, _, _⟩ := ho1.formNe (by rw [← HMX.out]; exact hM0)
    rw [← HMX.out] at HI hc1 ⊢
    have HX : Hid (∀ i, i < M → w1.cell? ⟨g1, i, none⟩ = some (.int .i64 (X.getD i 0))) := fun i hi => (ho1.at (by rw [← HMX.out]; exact hi)).1
    have K1 := Lib.hid k1
    clear ho1 k1
    go_wp2_with fail
    refine (refMay HI.out hw).mono ?_
    rw [decide_eq_true HM.out]
    rintro e2 w2 ⟨rfl, hw2⟩
    rw [hw2]
    clear hw2 w2
    go_wp2_with fail
    go_loopw [8] (fun i wr => ∃ k : Nat, k ≤ N ∧ i = .int .i64 k ∧ Keeps w1 wr) (fun i _ => N - (intOf i).toNat)
    case atStart => exact ⟨0, by omega, rfl, Fr.refl _ _⟩
    case round =>
      obtain ⟨k, hk, rfl, hkeep⟩ := hrel
      by_cases hlt : k < N
      case neg =>
        have KK := Lib.hid hkeep
        clear hkeep
        go_wp2_with (go_at_call 12; refine (livesFse _).mono ?_; rintro e w7 ⟨rfl, k7⟩; have K7 := Lib.hid k7; clear k7)
        go_ret
        go_light
        exact ⟨rfl, (K1.out.keeps KK.out).keeps K7.out⟩
      case pos =>
        obtain ⟨b, off, hab, ck⟩ := HC.out k hlt
        subst hab
        have ck := hkeep.cell (fun h => h) (K1.out.cell (fun h => h) ck)
        obtain ⟨c, hcc⟩ : ∃ c, c = cs.getD k 0 := ⟨_, rfl⟩
        rw [← hcc] at ck
        have t1 : (0 : Int) ≤ (k : Int) := by omega
        have t2 : (k : Int) < (N : Int) := by omega
        by_cases hkm : k < M
        · have cx := hkeep.cell (fun h => h) (HX.out k hkm)
          have hpk := HP.out k hkm
          obtain ⟨z, hz⟩ : ∃ z, z = X.getD k 0 := ⟨_, rfl⟩
          rw [← hz] at cx hpk
          rw [← hcc] at hpk
          have t3 : (k : Int) < (M : Int) := by omega
          have t3' : decide ((k : Int) < (M : Int)) = true := decide_eq_true t3
          have KK := Lib.hid hkeep
          clear hcc hz hkeep
          by_cases h0 : 0 < c
          · have h1 := hpk.2 h0
            have d1 : decide (0 < c) = true := decide_eq_true h0
            have d2 : decide (0 < z) = true := decide_eq_true h1
            clear hpk
            go_wp2_with fail
            go_quiet (fail)
            go_wp2_with fail
            go_roundw
            all_goals go_light
            case rel => exact ⟨k + 1, by omega, by go_num, KK.out.drewN _⟩
            case measure => simp [intOf]; omega
          · have h1 : ¬ 0 < z := fun hh => h0 (hpk.1 hh)
            have d1 : decide (0 < c) = false := decide_eq_false (by omega)
            have d2 : decide (0 < z) = false := decide_eq_false (by omega)
            clear hpk
            go_wp2_with fail
            go_quiet (fail)
            go_wp2_with fail
            go_roundw
            all_goals go_light
            case rel => exact ⟨k + 1, by omega, by go_num, KK.out.drewN _⟩
            case measure => simp [intOf]; omega
        · have h0 := HZ.out k (by omega) hlt
          rw [← hcc] at h0
          have d1 : decide (0 < c) = false := decide_eq_false (by omega)
          have d2 : decide ((k : Int) < (M : Int)) = false := decide_eq_false (by omega)
          have KK := Lib.hid hkeep
          clear hcc hkeep
          go_wp2_with fail
          go_quiet (fail)
          go_wp2_with fail
          go_roundw
          all_goals go_light
          case rel => exact ⟨k + 1, by omega, by go_num, KK.out.drewN _⟩
          case measure => simp [intOf]; omega
end Go.Proofs.Ytjdpijjoblfoaaa
