/- 'numbers' of the laws: two rows of numbers are the same just if they read the same. -/
import Derived.Test.YtbbljpkboojjhaaElems
import Derived.BigQuiet
namespace Go.Proofs.Ytbbljpkboojjhaa
open Go.RowKit

set_option maxHeartbeats 1000000 in
theorem numbersOf {u v : Value} {ys zs : List Int} {w : World} (hu : Ints .i64 w u ys) (hv : Ints .i64 w v zs) :
    Calls Try.prog 10 #[u, v] w fun e w' => e = .returned (.bool (decide (ys = zs))) ∧ Keeps w w' := by
  obtain ⟨_, a, c, rfl, hya, hyc, _, hy⟩ := hu
  obtain ⟨_, a', c', rfl, hza, hzc, _, hz⟩ := hv
  unfold maxLen at hyc hzc
  obtain ⟨m, hm⟩ : ∃ m, m = ys.length := ⟨_, rfl⟩
  obtain ⟨n, hn⟩ : ∃ n, n = zs.length := ⟨_, rfl⟩
  rw [← hm] at hya hy ⊢
  rw [← hn] at hza hz ⊢
  have HM := Lib.hid hm
  have HN := Lib.hid hn
  clear hm hn
  by_cases hmn : m = n
  · subst hmn
    go_enter Try.func10, Try.ntmps10
    go_wp2
    go_loopw [5] (fun i wr => ∃ k : Nat, k ≤ m ∧ i = .int .i64 k ∧ Hid (ys.take k = zs.take k) ∧ Keeps w wr) (fun i _ => m - (intOf i).toNat)
    case atStart => exact ⟨0, Nat.zero_le _, rfl, rfl, Fr.refl _ _⟩
    case round =>
      obtain ⟨k, hk, rfl, HS, hkeep⟩ := hrel
      by_cases hlt : k < m
      case neg =>
        clear hy hz
        go_wp2
        go_ret
        go_light
        refine ⟨?_, hkeep⟩
        have e : ys = zs := by
          have h := HS.out
          have h1 := HM.out
          have h2 := HN.out
          rwa [List.take_of_length_le (by omega), List.take_of_length_le (by omega)] at h
        rw [decide_eq_true e]; rfl
      obtain ⟨b, off, rfl, hc⟩ := hy k hlt
      obtain ⟨b', off', rfl, hc'⟩ := hz k hlt
      have hc := hkeep.cell (fun h => h) hc
      have hc' := hkeep.cell (fun h => h) hc'
      clear hy hz
      obtain ⟨y, hye⟩ : ∃ y, y = ys.getD k 0 := ⟨_, rfl⟩
      obtain ⟨z, hze⟩ : ∃ z, z = zs.getD k 0 := ⟨_, rfl⟩
      rw [← hye] at hc
      rw [← hze] at hc'
      have HY := Lib.hid hye
      have HZ := Lib.hid hze
      clear hye hze
      have hb1 : (0 : Int) ≤ (k : Int) := by omega
      have hb2 : (k : Int) < (m : Int) := by omega
      by_cases hyz : y = z
      · subst hyz
        go_wp2_with fail
        go_quiet (fail)
        go_wp2
        go_roundw
        all_goals go_light
        case rel =>
          refine ⟨k + 1, by omega, by go_num, ?_, hkeep.drewN _⟩
          have h1 := HM.out
          have h2 := HN.out
          show _ = _
          rw [List.take_succ_eq_append_getElem (show k < ys.length by omega), List.take_succ_eq_append_getElem (show k < zs.length by omega), HS.out]
          have e1 := HY.out
          have e2 := HZ.out
          rw [List.getD_eq_getElem?_getD, List.getElem?_eq_getElem (show k < ys.length by omega)] at e1
          rw [List.getD_eq_getElem?_getD, List.getElem?_eq_getElem (show k < zs.length by omega)] at e2
          simp only [Option.getD_some] at e1 e2
          rw [← e1, ← e2]
        case measure => simp [intOf]; omega
      · have hd : (y == z) = false := by simpa using hyz
        have hd' : (y != z) = true := by simpa using hyz
        have HD := Lib.hid hyz
        clear hyz
        go_wp2_with fail
        go_quiet (fail)
        go_wp2
        go_ret
        go_light
        refine ⟨?_, hkeep.drewN _⟩
        have e : ¬ ys = zs := fun h => HD.out (by rw [HY.out, HZ.out, h])
        rw [decide_eq_false e]; rfl
  · have hd : ((m : Int) == (n : Int)) = false := by simp; omega
    have hd' : ((m : Int) != (n : Int)) = true := by simp; omega
    have HD := Lib.hid hmn
    clear hmn
    go_enter Try.func10, Try.ntmps10
    go_wp2
    go_ret
    go_light
    refine ⟨?_, Fr.refl _ _⟩
    have e : ¬ ys = zs := fun h => HD.out (by rw [HM.out, HN.out, h])
    rw [decide_eq_false e]; rfl
end Go.Proofs.Ytbbljpkboojjhaa
