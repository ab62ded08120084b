/- Two lists of steps that are the same are told to be the same. -/
import Derived.Test.YtkckabfbngkkpaaLitS
import Derived.BigQuiet
namespace Go.Proofs.Ytkckabfbngkkpaa
open Go.RowKit

set_option maxRecDepth 100000 in
set_option maxHeartbeats 2000000 in
theorem sameTrue {w : World} {u v : Value} {qs : List (List Int)} (hu : Recs 3 w u qs) (hv : Recs 3 w v qs) (hn : qs.length ≤ 1048576) :
    Calls Try.prog 11 #[u, v] w fun e w' => e = .returned (.bool true) ∧ Keeps w w' := by
  have HU := Lib.hid hu
  have HV := Lib.hid hv
  obtain ⟨_, ua, uc, rfl, _, _, _⟩ := hu
  obtain ⟨_, va, vc, rfl, _, _, _⟩ := hv
  obtain ⟨n, hq⟩ : ∃ n, n = qs.length := ⟨_, rfl⟩
  rw [← hq] at hn HU HV ⊢
  clear hq
  go_enter Try.func11, Try.ntmps11
  go_wp2_with fail
  go_loopw [5] (fun i wr => ∃ k : Nat, k ≤ n ∧ i = .int .i64 k ∧ Keeps w wr) (fun i _ => n - (intOf i).toNat)
  case atStart => exact ⟨0, by omega, rfl, Fr.refl _ _⟩
  case round =>
    obtain ⟨k, hk, rfl, hkp⟩ := hrel
    have HK := Lib.hid hkp
    clear hkp
    by_cases hlt : k < n
    case neg =>
      go_wp2_with fail
      go_ret
      go_light
      exact ⟨rfl, HK.out⟩
    obtain ⟨_, lb, lo, hla, _, q0, q1, q2, hqe, c0, c1, c2, b0, b1, b2⟩ := HU.out.row3 hlt
    obtain ⟨_, mb, mo, hma, _, p0, p1, p2, hpe, e0, e1, e2, _, _, _⟩ := HV.out.row3 hlt
    rw [hqe] at hpe
    cases hpe
    subst hla
    subst hma
    have c0 := HK.out.cell (fun h => h) c0
    have c1 := HK.out.cell (fun h => h) c1
    have c2 := HK.out.cell (fun h => h) c2
    have e0 := HK.out.cell (fun h => h) e0
    have e1 := HK.out.cell (fun h => h) e1
    have e2 := HK.out.cell (fun h => h) e2
    have t1 : (0 : Int) ≤ (k : Int) := by omega
    have t2 : (k : Int) < (n : Int) := by omega
    clear hqe
    go_wp2_with fail
    go_quiet (fail)
    go_wp2_with fail
    go_roundw
    all_goals go_light
    case rel => exact ⟨k + 1, by omega, by go_num, HK.out.drewN _⟩
    case measure => simp [intOf]; omega
end Go.Proofs.Ytkckabfbngkkpaa
