/- FseOrder: the walk. -/
import Derived.Test.YtjdpijjoblfoaaaFseLives
import Derived.Test.YtjdpijjoblfoaaaShareQ
import Derived.BigQuiet
namespace Go.Proofs.Ytjdpijjoblfoaaa
open Go.RowKit

set_option maxRecDepth 100000 in
set_option maxHeartbeats 4000000 in
theorem walkFseOrder {v : Value} {cs : List Int} {log : Int} {w : World} (h : Ints .i64 w v cs) (hw : -9223372036854775808 ≤ log ∧ log ≤ 9223372036854775807) :
    Calls Try.prog 7 #[v, .int .i64 log] w fun e w' => e = .returned (.bool true) ∧ Keeps w w' := by
  have HV := Lib.hid h
  obtain ⟨_, a, cap, rfl, hcap, hmax, _, hc⟩ := h
  have HC := Lib.hid hc
  obtain ⟨N, hN⟩ : ∃ N, N = cs.length := ⟨_, rfl⟩
  rw [← hN] at hcap HC HV ⊢
  have HN := Lib.hid hN
  unfold maxLen at hmax
  clear hc hN
  by_cases hno : ShNo cs log
  · have e : Hid (shareS cs log = ([], 1)) := by show _ = _; rw [shareS, if_pos hno]
    clear hno
    go_enter Try.func7, Try.ntmps7
    go_wp2_with fail
    refine (fseShare HV.out hw).mono ?_
    rw [e.out]
    rintro e1 w1 ⟨x1, rfl, ho1, k1⟩
    obtain ⟨a1, c1, rfl⟩ := ho1.form
    have K1 := Lib.hid k1
    clear ho1 k1
    go_wp2_with (go_at_call 12; refine (livesFse _).mono ?_; rintro e w7 ⟨rfl, k7⟩; have K7 := Lib.hid k7; clear k7)
    go_ret
    go_light
    exact ⟨rfl, K1.out.keeps K7.out⟩
  · obtain ⟨hm, hl, hp⟩ := share_whole hno
    have hord := @share_order cs log hno
    obtain ⟨X, hX⟩ : ∃ X, X = shareO cs (2 ^ log.toNat) := ⟨_, rfl⟩
    have e : Hid (shareS cs log = (X, 0)) := by show _ = _; rw [shareS, if_neg hno, hX]
    rw [← hX] at hm hl hp hord
    obtain ⟨M, hM⟩ : ∃ M, M = X.length := ⟨_, rfl⟩
    have hMN : M ≤ N := by have := tlen_le cs cs.length; have := HN.out; omega
    have hM0 : 0 < M := by have := hm.2.2.1; omega
    have hM64 : M ≤ 64 := by have := hm.2.2.2.1; omega
    have HO : Hid (∀ i j, i < M → j < M → cs.getD j 0 ≤ cs.getD i 0 → X.getD j 0 ≤ X.getD i 0 + (M : Int)) := fun i j h1 h2 h3 => by
      have := hord (i := i) (j := j) (by omega) (by omega) h3
      omega
    have HB : Hid (∀ i, i < M → 0 ≤ X.getD i 0 ∧ X.getD i 0 ≤ 512) := fun i hi => by
      obtain ⟨h5, h9, _, _, _, h0, hs⟩ := hm
      have hpw := pow_log ⟨h5, h9⟩
      have h1 := h0 _ (getD_mem (show i < X.length by omega))
      have h2 := sum_ge h0 (i := i)
      omega
    have HMX := Lib.hid hM
    clear hno hm hl hp hX hM hord
    go_enter Try.func7, Try.ntmps7
    go_wp2_with fail
    refine (fseShare HV.out hw).mono ?_
    rw [e.out]
    rintro e1 w1 ⟨x1, rfl, ho1, k1⟩
    obtain ⟨g1, c1, rfl, hc1, hc2, _, _⟩ := ho1.formNe (by rw [← HMX.out]; exact hM0)
    rw [← HMX.out] at hc1 ⊢
    have HX : Hid (∀ i, i < M → w1.cell? ⟨g1, i, none⟩ = some (.int .i64 (X.getD i 0))) := fun i hi => (ho1.at (by rw [← HMX.out]; exact hi)).1
    have K1 := Lib.hid k1
    clear ho1 k1
    go_wp2_with fail
    go_loopw [7] (fun i wr => ∃ k : Nat, k ≤ M ∧ i = .int .i64 k ∧ Keeps w1 wr) (fun i _ => M - (intOf i).toNat)
    case atStart => exact ⟨0, by omega, rfl, Fr.refl _ _⟩
    case round =>
      obtain ⟨k, hk, rfl, hkeep⟩ := hrel
      by_cases hlt : k < M
      case neg =>
        have KK := Lib.hid hkeep
        clear hkeep
        go_wp2_with (go_at_call 12; refine (livesFse _).mono ?_; rintro e w7 ⟨rfl, k7⟩; have K7 := Lib.hid k7; clear k7)
        go_ret
        go_light
        exact ⟨rfl, (K1.out.keeps KK.out).keeps K7.out⟩
      case pos =>
        obtain ⟨b, off, hab, ck⟩ := HC.out k (by omega)
        subst hab
        have ck := K1.out.cell (fun h => h) ck
        have cx := HX.out k hlt
        have xb := HB.out k hlt
        obtain ⟨c, hcc⟩ : ∃ c, c = cs.getD k 0 := ⟨_, rfl⟩
        obtain ⟨z, hz⟩ : ∃ z, z = X.getD k 0 := ⟨_, rfl⟩
        rw [← hcc] at ck
        rw [← hz] at cx xb
        have t1 : (0 : Int) ≤ (k : Int) := by omega
        have t2 : (k : Int) < (N : Int) := by omega
        have t3 : (k : Int) < (M : Int) := by omega
        have HCC := Lib.hid hcc
        have HZ := Lib.hid hz
        have CK := Lib.hid ck
        have CX := Lib.hid cx
        have KK := Lib.hid hkeep
        clear hcc hz ck cx hkeep
        go_wp2_with fail
        go_loopw [8] (fun i w2 => ∃ j : Nat, j ≤ M ∧ i = .int .i64 j ∧ Keeps w1 w2) (fun i _ => M - (intOf i).toNat)
        case atStart => exact ⟨0, by omega, rfl, KK.out⟩
        case round =>
          obtain ⟨j, hj, rfl, hkeep⟩ := hrel
          by_cases hlj : j < M
          case neg =>
            have KJ := Lib.hid hkeep
            clear hkeep
            go_wp2_with fail
            go_roundw
            all_goals go_light
            case rel => exact ⟨k + 1, by omega, by go_num, KJ.out⟩
            case measure => simp [intOf]; omega
          case pos =>
            obtain ⟨b', off', hab', cj⟩ := HC.out j (by omega)
            cases hab'
            have cj := hkeep.cell (fun h => h) (K1.out.cell (fun h => h) cj)
            have ck := hkeep.cell (fun h => h) CK.out
            have cx := hkeep.cell (fun h => h) CX.out
            have cy := hkeep.cell (fun h => h) (HX.out j hlj)
            have yb := HB.out j hlj
            have ho := HO.out k j hlt hlj
            obtain ⟨d, hdd⟩ : ∃ d, d = cs.getD j 0 := ⟨_, rfl⟩
            obtain ⟨y, hy⟩ : ∃ y, y = X.getD j 0 := ⟨_, rfl⟩
            rw [← hdd] at cj ho
            rw [← hy] at cy yb ho
            rw [← HCC.out, ← HZ.out] at ho
            have t4 : (0 : Int) ≤ (j : Int) := by omega
            have t5 : (j : Int) < (N : Int) := by omega
            have t6 : (j : Int) < (M : Int) := by omega
            have t7 : IntKind.i64.wrap (z + (M : Int)) = z + (M : Int) := wraps_i64 _ (by omega) (by omega)
            have KJ := Lib.hid hkeep
            clear hdd hy hkeep
            by_cases hgt : d < c
            · have h1 := ho (by omega)
              have d1 : decide (d < c) = true := decide_eq_true hgt
              have d2 : decide (z + (M : Int) < y) = false := decide_eq_false (by omega)
              clear ho
              go_wp2_with fail
              go_quiet (fail)
              go_wp2_with fail
              go_roundw
              all_goals go_light
              case rel => exact ⟨j + 1, by omega, by go_num, KJ.out.drewN _⟩
              case measure => simp [intOf]; omega
            · have d1 : decide (d < c) = false := decide_eq_false hgt
              clear ho
              go_wp2_with fail
              go_quiet (fail)
              go_wp2_with fail
              go_roundw
              all_goals go_light
              case rel => exact ⟨j + 1, by omega, by go_num, KJ.out.drewN _⟩
              case measure => simp [intOf]; omega
end Go.Proofs.Ytjdpijjoblfoaaa
