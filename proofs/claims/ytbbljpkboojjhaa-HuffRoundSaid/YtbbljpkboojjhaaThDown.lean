/- The heap's down, over the queue of things (printed from XQuDown). -/
import Derived.Test.YtbbljpkboojjhaaThLaw
namespace Go.Proofs.Ytbbljpkboojjhaa
open Go.RowKit

set_option maxRecDepth 100000 in
set_option maxHeartbeats 1000000 in
theorem heapDown {D : Int → Th} {w : World} {b off n N lo : Nat} {v : Value} {q : List Int} (hc : w.cell? ⟨b, off, none⟩ = some v) (hb : v.ownBlock ≠ some b) (hq : OwnT D 0 w v q) (hN : N = q.length) (hn : n ≤ N) (hN2 : N ≤ 100000000) (hnum : NumT q) (hlo : lo ≤ N) (hd : DownL (q.map (keyT D)) n lo lo) :
    Calls Try.prog 40 #[.iface 65 (.pointer (some ⟨b, off, none⟩)), .int .i64 lo, .int .i64 n] w fun e w' => (∃ r, e = .returned r) ∧
      ∃ q', OwnT D 0 w' v q' ∧ q'.length = N ∧ HeapL (q'.map (keyT D)) n lo ∧ SameN q' q ∧ (∀ k, n ≤ k → q'.getD k 0 = q.getD k 0) ∧ Fr (fun k => v.ownBlock = some k) w w' := by
  have HC := Lib.hid hc
  have HB := Lib.hid hb
  have HQ := Lib.hid hq
  have HN := Lib.hid hN
  have HD := Lib.hid hd
  have HNU := Lib.hid hnum
  have hml := @meth_less'
  have hms := @meth_swap'
  clear hb hq hN hd hnum
  go_enter Try.func40, Try.ntmps40
  go_wp2_with fail
  go_loopw [7] (fun iv wr => ∃ (i : Nat) (q' : List Int), i ≤ N ∧ iv = .int .i64 i ∧ OwnT D 0 wr v q' ∧ q'.length = N ∧ DownL (q'.map (keyT D)) n lo i ∧ SameN q' q ∧ (∀ k, n ≤ k → q'.getD k 0 = q.getD k 0) ∧ Fr (fun k => v.ownBlock = some k) w wr) (fun iv _ => N - (intOf iv).toNat)
  case atStart => exact ⟨lo, q, by omega, rfl, HQ.out, HN.out.symm, HD.out, SameN.refl _, fun k _ => rfl, Fr.refl _ _⟩
  case round =>
    obtain ⟨i, q', hi, rfl, ho, hl, hd, hm, hk, hf⟩ := hrel
    have hcr := hf.cell (p := ⟨b, off, none⟩) (fun h => HB.out h) hc
    have HO := Lib.hid ho
    have HL := Lib.hid hl
    have HD2 := Lib.hid hd
    have HM := Lib.hid hm
    have HK := Lib.hid hk
    have HF := Lib.hid hf
    have HNM : Hid (NumT q') := HNU.out.same hm
    clear ho hl hd hm hk hf
    have hor : n ≤ 2 * i + 1 ∨ 2 * i + 1 < n := by omega
    rcases hor with h1 | h1
    · go_wp2_with fail
      go_ret
      go_light
      exact ⟨⟨_, rfl⟩, q', HO.out, HL.out, HD2.out.done (fun k h2 h3 h4 => by omega), HM.out, HK.out, HF.out⟩
    · have HLess : Hid (∀ (wx : World) (x y : Int) (a c : Nat), OwnT D 0 wx v q' → x = (a : Nat) → y = (c : Nat) → a < N → c < N → Calls Try.prog 63 #[v, .int .i64 x, .int .i64 y] wx fun e w' => e = .returned (.bool (decide ((q'.map (keyT D)).getD a 0 < (q'.map (keyT D)).getD c 0))) ∧ Keeps wx w') := fun wx x y a c ho hx hy ha hc => by
        rw [hx, hy]
        have := HL.out
        rw [map_get D q' (by omega), map_get D q' (by omega)]
        exact (tLess ho HNM.out (by omega) (by omega) (by omega)).mono fun e w' ⟨he, m, hm⟩ => ⟨he, by rw [hm]; exact (Fr.refl _ _).drewN _⟩
      have HSwap : Hid (∀ (wx : World) (x y : Int) (a c : Nat), OwnT D 0 wx v q' → x = (a : Nat) → y = (c : Nat) → a < N → c < N → a ≠ c → Calls Try.prog 64 #[v, .int .i64 x, .int .i64 y] wx fun e w' => e = .returned (.tuple #[]) ∧ OwnT D 0 w' v (swapL q' a c) ∧ Fr (fun k => v.ownBlock = some k) wx w') := fun wx x y a c ho hx hy ha hc hac => by
        rw [hx, hy]
        have := HL.out
        exact tSwap ho (by omega) (by omega) hac (by omega)
      have hcase : ∃ j : Nat, 0 < j ∧ (j - 1) / 2 = i ∧ j < n ∧ (∀ k, 0 < k → k < n → (k - 1) / 2 = i → (q'.map (keyT D)).getD j 0 ≤ (q'.map (keyT D)).getD k 0) ∧
          ((2 * i + 2 < n ∧ (q'.map (keyT D)).getD (2 * i + 2) 0 < (q'.map (keyT D)).getD (2 * i + 1) 0 ∧ 2 * i + 2 ≤ j ∧ j ≤ 2 * i + 2) ∨ (2 * i + 2 < n ∧ ¬ (q'.map (keyT D)).getD (2 * i + 2) 0 < (q'.map (keyT D)).getD (2 * i + 1) 0 ∧ 2 * i + 1 ≤ j ∧ j ≤ 2 * i + 1) ∨ (n ≤ 2 * i + 2 ∧ 2 * i + 1 ≤ j ∧ j ≤ 2 * i + 1)) := by
        by_cases h2 : 2 * i + 2 < n
        · by_cases h3 : (q'.map (keyT D)).getD (2 * i + 2) 0 < (q'.map (keyT D)).getD (2 * i + 1) 0
          · refine ⟨2 * i + 2, by omega, by omega, h2, fun k g1 g2 g3 => ?_, .inl ⟨h2, h3, by omega, by omega⟩⟩
            rcases (show k = 2 * i + 1 ∨ k = 2 * i + 2 by omega) with rfl | rfl
            · omega
            · exact Int.le_refl _
          · refine ⟨2 * i + 1, by omega, by omega, h1, fun k g1 g2 g3 => ?_, .inr (.inl ⟨h2, h3, by omega, by omega⟩)⟩
            rcases (show k = 2 * i + 1 ∨ k = 2 * i + 2 by omega) with rfl | rfl
            · exact Int.le_refl _
            · omega
        · refine ⟨2 * i + 1, by omega, by omega, h1, fun k g1 g2 g3 => ?_, .inr (.inr ⟨by omega, by omega, by omega⟩)⟩
          rw [show k = 2 * i + 1 by omega]
          exact Int.le_refl _
      obtain ⟨j, hj0, hj1, hj2, hmin, hor⟩ := hcase
      have HMin := Lib.hid hmin
      have HJ1 := Lib.hid hj1
      have hij : i < j := by omega
      clear hmin hj1
      by_cases hlt : (q'.map (keyT D)).getD j 0 < (q'.map (keyT D)).getD i 0
      · have HLT := Lib.hid (decide_eq_true hlt)
        have HLT2 := Lib.hid hlt
        clear hlt
        rcases hor with ⟨g1, g2, g3, g4⟩ | ⟨g1, g2, g3, g4⟩ | ⟨g1, g3, g4⟩
        case inl =>
          have HG := Lib.hid (decide_eq_true g2)
          clear g2
          go_wp2_with fail
          refine (HLess.out _ _ _ (2 * i + 2) (2 * i + 1) HO.out (by omega) (by omega) (by omega) (by omega)).mono ?_
          rw [HG.out]
          rintro e w5 ⟨rfl, k5⟩
          have hc5 := k5.cell (fun h => h) hcr
          have K5 := Lib.hid k5
          clear k5
          go_wp2_with fail
          refine (HLess.out _ _ _ j i (HO.out.keeps K5.out) (by omega) (by omega) (by omega) (by omega)).mono ?_
          rw [HLT.out]
          rintro e w6 ⟨rfl, k6⟩
          have hc6 := k6.cell (fun h => h) hc5
          have K6 : Hid (Keeps wr w6) := K5.out.keeps k6
          clear k6
          go_wp2_with fail
          refine (HSwap.out _ _ _ i j (HO.out.keeps K6.out) (by omega) (by omega) (by omega) (by omega) (by omega)).mono ?_
          rintro e w7 ⟨rfl, o7, f7⟩
          have O7 := Lib.hid o7
          have F7 : Hid (Fr (fun k => v.ownBlock = some k) w w7) := (HF.out.keeps K6.out).trans f7 (fun _ _ h => h)
          clear o7 f7
          go_wp2_with fail
          go_roundw
          all_goals go_light
          case rel =>
            exact ⟨j, swapL q' i j, by omega, congrArg (Value.int .i64) (by omega), O7.out, by rw [swapL_length, HL.out], by rw [map_swap D q' (by rw [HL.out]; omega) (by rw [HL.out]; omega)]; exact HD2.out.step (by rw [List.length_map, HL.out]; omega) (by omega) hj2 hj0 HJ1.out (by have := HLT2.out; omega) HMin.out, (sameN_swap (by rw [HL.out]; omega) (by rw [HL.out]; omega)).trans HM.out, fun k hk => by rw [swapL_get q' (by rw [HL.out]; omega) (by rw [HL.out]; omega), if_neg (by omega), if_neg (by omega)]; exact HK.out k hk, F7.out⟩
          case measure => simp [intOf]; omega
        case inr.inl =>
          have HG := Lib.hid (decide_eq_false g2)
          clear g2
          go_wp2_with fail
          refine (HLess.out _ _ _ (2 * i + 2) (2 * i + 1) HO.out (by omega) (by omega) (by omega) (by omega)).mono ?_
          rw [HG.out]
          rintro e w5 ⟨rfl, k5⟩
          have hc5 := k5.cell (fun h => h) hcr
          have K5 := Lib.hid k5
          clear k5
          go_wp2_with fail
          refine (HLess.out _ _ _ j i (HO.out.keeps K5.out) (by omega) (by omega) (by omega) (by omega)).mono ?_
          rw [HLT.out]
          rintro e w6 ⟨rfl, k6⟩
          have hc6 := k6.cell (fun h => h) hc5
          have K6 : Hid (Keeps wr w6) := K5.out.keeps k6
          clear k6
          go_wp2_with fail
          refine (HSwap.out _ _ _ i j (HO.out.keeps K6.out) (by omega) (by omega) (by omega) (by omega) (by omega)).mono ?_
          rintro e w7 ⟨rfl, o7, f7⟩
          have O7 := Lib.hid o7
          have F7 : Hid (Fr (fun k => v.ownBlock = some k) w w7) := (HF.out.keeps K6.out).trans f7 (fun _ _ h => h)
          clear o7 f7
          go_wp2_with fail
          go_roundw
          all_goals go_light
          case rel =>
            exact ⟨j, swapL q' i j, by omega, congrArg (Value.int .i64) (by omega), O7.out, by rw [swapL_length, HL.out], by rw [map_swap D q' (by rw [HL.out]; omega) (by rw [HL.out]; omega)]; exact HD2.out.step (by rw [List.length_map, HL.out]; omega) (by omega) hj2 hj0 HJ1.out (by have := HLT2.out; omega) HMin.out, (sameN_swap (by rw [HL.out]; omega) (by rw [HL.out]; omega)).trans HM.out, fun k hk => by rw [swapL_get q' (by rw [HL.out]; omega) (by rw [HL.out]; omega), if_neg (by omega), if_neg (by omega)]; exact HK.out k hk, F7.out⟩
          case measure => simp [intOf]; omega
        case inr.inr =>
          go_wp2_with fail
          refine (HLess.out _ _ _ j i HO.out (by omega) (by omega) (by omega) (by omega)).mono ?_
          rw [HLT.out]
          rintro e w6 ⟨rfl, k6⟩
          have hc6 := k6.cell (fun h => h) hcr
          have K6 : Hid (Keeps wr w6) := k6
          clear k6
          go_wp2_with fail
          refine (HSwap.out _ _ _ i j (HO.out.keeps K6.out) (by omega) (by omega) (by omega) (by omega) (by omega)).mono ?_
          rintro e w7 ⟨rfl, o7, f7⟩
          have O7 := Lib.hid o7
          have F7 : Hid (Fr (fun k => v.ownBlock = some k) w w7) := (HF.out.keeps K6.out).trans f7 (fun _ _ h => h)
          clear o7 f7
          go_wp2_with fail
          go_roundw
          all_goals go_light
          case rel =>
            exact ⟨j, swapL q' i j, by omega, congrArg (Value.int .i64) (by omega), O7.out, by rw [swapL_length, HL.out], by rw [map_swap D q' (by rw [HL.out]; omega) (by rw [HL.out]; omega)]; exact HD2.out.step (by rw [List.length_map, HL.out]; omega) (by omega) hj2 hj0 HJ1.out (by have := HLT2.out; omega) HMin.out, (sameN_swap (by rw [HL.out]; omega) (by rw [HL.out]; omega)).trans HM.out, fun k hk => by rw [swapL_get q' (by rw [HL.out]; omega) (by rw [HL.out]; omega), if_neg (by omega), if_neg (by omega)]; exact HK.out k hk, F7.out⟩
          case measure => simp [intOf]; omega
      · have HLT := Lib.hid (decide_eq_false hlt)
        have HDN : Hid (HeapL (q'.map (keyT D)) n lo) := HD2.out.done (fun k g1 g2 g3 => by have := HMin.out k g1 g2 g3; omega)
        clear hlt
        rcases hor with ⟨g1, g2, g3, g4⟩ | ⟨g1, g2, g3, g4⟩ | ⟨g1, g3, g4⟩
        case inl =>
          have HG := Lib.hid (decide_eq_true g2)
          clear g2
          go_wp2_with fail
          refine (HLess.out _ _ _ (2 * i + 2) (2 * i + 1) HO.out (by omega) (by omega) (by omega) (by omega)).mono ?_
          rw [HG.out]
          rintro e w5 ⟨rfl, k5⟩
          have hc5 := k5.cell (fun h => h) hcr
          have K5 := Lib.hid k5
          clear k5
          go_wp2_with fail
          refine (HLess.out _ _ _ j i (HO.out.keeps K5.out) (by omega) (by omega) (by omega) (by omega)).mono ?_
          rw [HLT.out]
          rintro e w6 ⟨rfl, k6⟩
          have hc6 := k6.cell (fun h => h) hc5
          have K6 : Hid (Keeps wr w6) := K5.out.keeps k6
          clear k6
          go_wp2_with fail
          go_ret
          go_light
          exact ⟨⟨_, rfl⟩, q', HO.out.keeps K6.out, HL.out, HDN.out, HM.out, HK.out, HF.out.keeps K6.out⟩
        case inr.inl =>
          have HG := Lib.hid (decide_eq_false g2)
          clear g2
          go_wp2_with fail
          refine (HLess.out _ _ _ (2 * i + 2) (2 * i + 1) HO.out (by omega) (by omega) (by omega) (by omega)).mono ?_
          rw [HG.out]
          rintro e w5 ⟨rfl, k5⟩
          have hc5 := k5.cell (fun h => h) hcr
          have K5 := Lib.hid k5
          clear k5
          go_wp2_with fail
          refine (HLess.out _ _ _ j i (HO.out.keeps K5.out) (by omega) (by omega) (by omega) (by omega)).mono ?_
          rw [HLT.out]
          rintro e w6 ⟨rfl, k6⟩
          have hc6 := k6.cell (fun h => h) hc5
          have K6 : Hid (Keeps wr w6) := K5.out.keeps k6
          clear k6
          go_wp2_with fail
          go_ret
          go_light
          exact ⟨⟨_, rfl⟩, q', HO.out.keeps K6.out, HL.out, HDN.out, HM.out, HK.out, HF.out.keeps K6.out⟩
        case inr.inr =>
          go_wp2_with fail
          refine (HLess.out _ _ _ j i HO.out (by omega) (by omega) (by omega) (by omega)).mono ?_
          rw [HLT.out]
          rintro e w6 ⟨rfl, k6⟩
          have hc6 := k6.cell (fun h => h) hcr
          have K6 : Hid (Keeps wr w6) := k6
          clear k6
          go_wp2_with fail
          go_ret
          go_light
          exact ⟨⟨_, rfl⟩, q', HO.out.keeps K6.out, HL.out, HDN.out, HM.out, HK.out, HF.out.keeps K6.out⟩
end Go.Proofs.Ytbbljpkboojjhaa
