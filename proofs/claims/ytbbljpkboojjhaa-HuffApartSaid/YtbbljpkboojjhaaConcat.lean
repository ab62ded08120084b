/- slices.Concat of two rows of numbers. -/
import Derived.Test.YtbbljpkboojjhaaZeros
namespace Go.Proofs.Ytbbljpkboojjhaa
open Go.RowKit

theorem Own.take {k : IntKind} {E : TypeId} {B : Nat} {w : World} {a : Option Addr} {n c j : Nat} {zs : List Int} (h : Own k E B w (.slice a n c) zs) (hj : j ≤ n) : Own k E B w (.slice a j c) (zs.take j) := by
  have hl : zs.length = n := h.ints.len.1
  obtain ⟨h1, h2, h3⟩ := h
  have hlt : (zs.take j).length = j := by rw [List.length_take]; omega
  refine ⟨fun z hz => h1 z (List.mem_of_mem_take hz), by simp, ?_⟩
  rcases h3 with ⟨hv, h0⟩ | ⟨g, cap, cur, hv, hb, hg, hn, hm, hs, ht⟩
  · cases hv
    exact .inl ⟨by rw [show j = 0 by omega], by rw [hlt]; omega⟩
  · cases hv
    refine .inr ⟨g, c, cur, by rw [hlt], hb, hg, by rw [hlt]; omega, hm, hs, ?_⟩
    rw [hlt, Nat.mul_one, List.map_take, ← ht, Nat.mul_one, List.take_take, hl, Nat.min_eq_left hj]

set_option maxHeartbeats 1000000 in
theorem growNil {w : World} {n : Nat} (h0 : 0 < n) (hn : n ≤ 1000000) :
    Calls Try.prog 41 #[.slice none 0 0, .int .i64 n] w fun e w' => ∃ v', e = .returned v' ∧ Own .i64 3 w.heap.size w' v' [] ∧ Keeps w w' := by
  have hpos : (0 : Int) < (n : Int) := by omega
  have hti : Try.prog.underlying 3 = some (.int .i64) := Try.underlying3
  go_enter Try.func41, Try.ntmps41
  go_wp2_with (at_builtin; go_loud (refine wpList_zeros rfl (.tmp 20) (.tmp 21) rfl elemI hti (m := n) (.slice none 0 0) rfl rfl (Own.nil .i64 3 w.heap.size _) h0 (by simp; omega) (Nat.le_refl _) ?_); intro v1 w1 hown1 hfr1; obtain ⟨g1, c1, hv1, hc1, hc2, hg1, hg2⟩ := hown1.formNe (by simp; omega); simp only [List.nil_append, List.length_replicate] at hv1 hc1; subst hv1; have H1 := Lib.hid hown1; have F1 := Lib.hid hfr1; clear hown1 hfr1)
  go_ret
  go_light
  refine ⟨_, rfl, ?_, F1.out.mono fun i hi h => by simp [Value.ownBlock] at h⟩
  have := H1.out
  rw [List.nil_append] at this
  exact this.take (j := 0) (Nat.zero_le _)

set_option maxRecDepth 100000 in
set_option maxHeartbeats 1000000 in
theorem concatTwo {va vb : Value} {xs ys : List Int} {b : Nat} {w : World} (ha : Ints .i64 w va xs) (hb : Ints .i64 w vb ys) (h0 : 0 < xs.length) (hx : xs.length ≤ 100000) (hy : ys.length ≤ 100000)
    (hc0 : w.cell? ⟨b, 0, none⟩ = some va) (hc1 : w.cell? ⟨b, 1, none⟩ = some vb) :
    Calls Try.prog 34 #[.slice (some ⟨b, 0, none⟩) 2 2] w fun e w' => ∃ v', e = .returned v' ∧ Own .i64 3 w.heap.size w' v' (xs ++ ys) ∧ Keeps w w' := by
  obtain ⟨aa, ca, hva⟩ := ha.form
  obtain ⟨ab, cb, hvb⟩ := hb.form
  subst hva
  subst hvb
  obtain ⟨L, hL⟩ : ∃ L, L = xs.length := ⟨_, rfl⟩
  obtain ⟨M, hM⟩ : ∃ M, M = ys.length := ⟨_, rfl⟩
  rw [← hL] at ha hc0 h0 hx
  rw [← hM] at hb hc1 hy
  have HA := Lib.hid ha
  have HB := Lib.hid hb
  have HL := Lib.hid hL
  have HM := Lib.hid hM
  have HS : Hid (∀ j : Nat, (j = 0 ∨ j = 1) → ∃ (a : Option Addr) (n c : Nat) (zs : List Int), w.cell? ⟨b, j, none⟩ = some (.slice a n c) ∧ Ints .i64 w (.slice a n c) zs ∧ n = zs.length ∧ n ≤ 100000 ∧
      (j = 0 → n = L ∧ zs = xs) ∧ (j = 1 → n = M ∧ zs = ys)) := fun j hj => by
    rcases hj with rfl | rfl
    · exact ⟨_, _, _, xs, hc0, HA.out, HL.out, hx, fun _ => ⟨rfl, rfl⟩, fun h => by omega⟩
    · exact ⟨_, _, _, ys, hc1, HB.out, HM.out, hy, fun h => by omega, fun _ => ⟨rfl, rfl⟩⟩
  clear ha hb hL hM hc0 hc1
  go_enter Try.func34, Try.ntmps34
  go_wp2_with fail
  go_loopw [11, 3] (fun iv sv wr => ∃ (k s : Nat), k ≤ 2 ∧ iv = .int .i64 k ∧ sv = .int .i64 s ∧ (k = 0 → s = 0) ∧ (k = 1 → s = L) ∧ (k = 2 → s = L + M) ∧ s ≤ 300000 ∧ wr = w) (fun iv _ _ => 2 - (intOf iv).toNat)
  case atStart => exact ⟨0, 0, by omega, rfl, rfl, by omega, by omega, by omega, by omega, rfl⟩
  case round =>
    obtain ⟨k, s, hk, rfl, rfl, hk0, hk1, hk2, hs, hww⟩ := hrel
    rw [hww]
    clear hww
    by_cases hlt : k < 2
    case pos =>
      obtain ⟨a, n, c, zs, hc, _, _, hn, g0, g1⟩ := HS.out k (by omega)
      have G0 : Hid (k = 0 → n = L) := fun h => (g0 h).1
      have G1 : Hid (k = 1 → n = M) := fun h => (g1 h).1
      have HK0 := Lib.hid hk0
      have HK1 := Lib.hid hk1
      have ti1 : (k : Int) < 2 := by omega
      clear g0 g1 hk0 hk1 hk2
      have td : decide ((s : Int) + (n : Int) < 0) = false := decide_eq_false (by omega)
      go_wp2_with fail
      go_roundw
      all_goals go_light
      case rel =>
        have a0 := HK0.out
        have a1 := HK1.out
        have b0 := G0.out
        have b1 := G1.out
        exact ⟨k + 1, s + n, by omega, by go_num, by go_num, by omega, by omega, by omega, by omega, trivial⟩
      case measure => simp [intOf]; omega
    case neg =>
      obtain rfl : k = 2 := by omega
      have hs2 := hk2 rfl
      have hs3 : 0 < s := by omega
      have hs4 : (0 : Int) ≤ (s : Int) := by omega
      clear hk0 hk1 hk2 hs2
      go_wp2_with fail
      refine (growNil (n := s) hs3 (by omega)).mono ?_
      rintro e1 w1 ⟨v1, rfl, o1, k1⟩
      have HO1 := Lib.hid o1
      have K1 := Lib.hid k1
      clear o1 k1
      go_wp2_with fail
      go_loopw [27, 6] (fun iv ov wr => ∃ k : Nat, k ≤ 2 ∧ iv = .int .i64 k ∧ (∃ zs, Own .i64 3 w.heap.size wr ov zs ∧ Hid ((k = 0 → zs = []) ∧ (k = 1 → zs = xs) ∧ (k = 2 → zs = xs ++ ys)) ∧ zs.length ≤ 300000) ∧ Keeps w wr) (fun iv _ _ => 2 - (intOf iv).toNat)
      case atStart => exact ⟨0, by omega, rfl, ⟨[], HO1.out, ⟨fun _ => rfl, fun h => by omega, fun h => by omega⟩, by simp⟩, K1.out⟩
      case round =>
        obtain ⟨k, hk, rfl, ⟨os, hown, HZ, hzl⟩, hkp⟩ := hrel
        have HO := Lib.hid hown
        have HK := Lib.hid hkp
        by_cases hlt : k < 2
        case pos =>
          obtain ⟨a, n, c, zs, hc, hi, hnl, hn, g0, g1⟩ := HS.out k (by omega)
          have hcr := hkp.cell (fun h => h) hc
          have HI := Lib.hid (hi.keeps hkp)
          have HNL := Lib.hid hnl
          have ti1 : (k : Int) < 2 := by omega
          have HZN : Hid ((k + 1 = 0 → os ++ zs = []) ∧ (k + 1 = 1 → os ++ zs = xs) ∧ (k + 1 = 2 → os ++ zs = xs ++ ys)) := by
            refine ⟨fun h => by omega, fun h => ?_, fun h => ?_⟩
            · rw [HZ.out.1 (by omega), (g0 (by omega)).2]; rfl
            · rw [HZ.out.2.1 (by omega), (g1 (by omega)).2]
          have HLN : Hid ((os ++ zs).length ≤ 300000) := by
            show _ ≤ _
            rw [List.length_append]
            by_cases h : k = 0
            · rw [HZ.out.1 h]; simp; omega
            · rw [HZ.out.2.1 (by omega)]
              have := HL.out
              omega
          have hroom : (os.length + zs.length) * 8 ≤ 140737488355328 := by omega
          have hsz := hkp.size
          obtain ⟨oa, oc, hov⟩ := hown.form
          clear hown hkp hi hnl g0 g1 hc
          subst hov
          go_wp2_with (at_builtin; go_loud (refine wpList_ints rfl (.tmp 31) (.tmp 32) rfl elemI _ rfl rfl HO.out HI.out hroom hsz ?_); intro v5 w5 hown5 hfr5 hat5; have H5 := Lib.hid hown5; have F5 := Lib.hid hfr5; clear hown5 hfr5 hat5)
          go_roundw
          all_goals go_light
          case rel => exact ⟨k + 1, by omega, by go_num, ⟨os ++ zs, H5.out, HZN.out, HLN.out⟩, Keeps.own HK.out HO.out (Nat.le_refl _) F5.out⟩
          case measure => simp [intOf]; omega
        case neg =>
          have HOS : Hid (os = xs ++ ys) := HZ.out.2.2 (by omega)
          obtain rfl : k = 2 := by omega
          clear hown hkp HZ
          go_wp2_with fail
          go_ret
          go_light
          exact ⟨_, rfl, by rw [← HOS.out]; exact HO.out, HK.out⟩
end Go.Proofs.Ytbbljpkboojjhaa
