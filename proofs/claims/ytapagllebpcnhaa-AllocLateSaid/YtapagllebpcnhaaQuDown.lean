/- The heap's down and up, over the queue of numbers. -/
import Derived.Test.YtapagllebpcnhaaQuOps
namespace Go.Proofs.Ytapagllebpcnhaa
open Go.RowKit

theorem naLen (a : Addr) (w : World) : (nilAhead 185 58 (.pointer (some a)) "Len").run Try.prog w = .ok (some false) w := by kernel_rfl
theorem naLess (a : Addr) (w : World) : (nilAhead 185 58 (.pointer (some a)) "Less").run Try.prog w = .ok (some false) w := by kernel_rfl
theorem naSwap (a : Addr) (w : World) : (nilAhead 185 58 (.pointer (some a)) "Swap").run Try.prog w = .ok (some false) w := by kernel_rfl

set_option maxRecDepth 100000 in
set_option maxHeartbeats 1000000 in
theorem heapDown {w : World} {b off n N : Nat} {v : Value} {q : List Int} (hc : w.cell? ⟨b, off, none⟩ = some v) (hb : v.ownBlock ≠ some b) (hq : Own .i64 3 0 w v q) (hN : N = q.length) (hn : n ≤ N) (hN2 : N ≤ 17592186044200) (hd : DownInv q n 0) :
    Calls Try.prog 39 #[.iface 58 (.pointer (some ⟨b, off, none⟩)), .int .i64 0, .int .i64 n] w fun e w' => (∃ r, e = .returned r) ∧
      ∃ q', Own .i64 3 0 w' v q' ∧ q'.length = N ∧ HeapN q' n ∧ (∀ y, MemN q' n y ↔ MemN q n y) ∧ (∀ k, n ≤ k → q'.getD k 0 = q.getD k 0) ∧ Fr (fun k => v.ownBlock = some k) w w' := by
  have HC := Lib.hid hc
  have HB := Lib.hid hb
  have HQ := Lib.hid hq
  have HN := Lib.hid hN
  have HD := Lib.hid hd
  have hml := @meth_less'
  have hms := @meth_swap'
  clear hb hq hN hd
  go_enter Try.func39, Try.ntmps39
  go_wp2_with fail
  go_loopw [7] (fun iv wr => ∃ (i : Nat) (q' : List Int), i ≤ N ∧ iv = .int .i64 i ∧ Own .i64 3 0 wr v q' ∧ q'.length = N ∧ DownInv q' n i ∧ (∀ y, MemN q' n y ↔ MemN q n y) ∧ (∀ k, n ≤ k → q'.getD k 0 = q.getD k 0) ∧ Fr (fun k => v.ownBlock = some k) w wr) (fun iv _ => N - (intOf iv).toNat)
  case atStart => exact ⟨0, q, by omega, rfl, HQ.out, HN.out.symm, HD.out, fun y => Iff.rfl, fun k _ => rfl, Fr.refl _ _⟩
  case round =>
    obtain ⟨i, q', hi, rfl, ho, hl, hd, hm, hk, hf⟩ := hrel
    have hcr := hf.cell (p := ⟨b, off, none⟩) (fun h => HB.out h) hc
    have HO := Lib.hid ho
    have HL := Lib.hid hl
    have HD2 := Lib.hid hd
    have HM := Lib.hid hm
    have HK := Lib.hid hk
    have HF := Lib.hid hf
    clear ho hl hd hm hk hf
    have hor : n ≤ 2 * i + 1 ∨ 2 * i + 1 < n := by omega
    rcases hor with h1 | h1
    · go_wp2_with fail
      go_ret
      go_light
      exact ⟨⟨_, rfl⟩, q', HO.out, HL.out, HD2.out.done (fun k h2 h3 h4 => by omega), HM.out, HK.out, HF.out⟩
    · have HLess : Hid (∀ (wx : World) (x y : Int) (a c : Nat), Own .i64 3 0 wx v q' → x = (a : Nat) → y = (c : Nat) → a < N → c < N → Calls Try.prog 60 #[v, .int .i64 x, .int .i64 y] wx fun e w' => e = .returned (.bool (decide (q'.getD a 0 < q'.getD c 0))) ∧ Keeps wx w') := fun wx x y a c ho hx hy ha hc => by
        rw [hx, hy]
        have := HL.out
        exact (qLess ho (by omega) (by omega) (by omega)).mono fun e w' ⟨he, m, hm⟩ => ⟨he, by rw [hm]; exact (Fr.refl _ _).drewN _⟩
      have HSwap : Hid (∀ (wx : World) (x y : Int) (a c : Nat), Own .i64 3 0 wx v q' → x = (a : Nat) → y = (c : Nat) → a < N → c < N → Calls Try.prog 61 #[v, .int .i64 x, .int .i64 y] wx fun e w' => e = .returned (.tuple #[]) ∧ Own .i64 3 0 w' v (swapL q' a c) ∧ Fr (fun k => v.ownBlock = some k) wx w') := fun wx x y a c ho hx hy ha hc => by
        rw [hx, hy]
        have := HL.out
        exact qSwap ho (by omega) (by omega) (by omega)
      have hcase : ∃ j : Nat, 0 < j ∧ (j - 1) / 2 = i ∧ j < n ∧ (∀ k, 0 < k → k < n → (k - 1) / 2 = i → q'.getD j 0 ≤ q'.getD k 0) ∧
          ((2 * i + 2 < n ∧ q'.getD (2 * i + 2) 0 < q'.getD (2 * i + 1) 0 ∧ 2 * i + 2 ≤ j ∧ j ≤ 2 * i + 2) ∨ (2 * i + 2 < n ∧ ¬ q'.getD (2 * i + 2) 0 < q'.getD (2 * i + 1) 0 ∧ 2 * i + 1 ≤ j ∧ j ≤ 2 * i + 1) ∨ (n ≤ 2 * i + 2 ∧ 2 * i + 1 ≤ j ∧ j ≤ 2 * i + 1)) := by
        by_cases h2 : 2 * i + 2 < n
        · by_cases h3 : q'.getD (2 * i + 2) 0 < q'.getD (2 * i + 1) 0
          · refine ⟨2 * i + 2, by omega, by omega, h2, fun k g1 g2 g3 => ?_, .inl ⟨h2, h3, by omega, by omega⟩⟩
            rcases (show k = 2 * i + 1 ∨ k = 2 * i + 2 by omega) with rfl | rfl
            · omega
            · exact Int.le_refl _
          · refine ⟨2 * i + 1, by omega, by omega, h1, fun k g1 g2 g3 => ?_, .inr (.inl ⟨h2, h3, by omega, by omega⟩)⟩
            rcases (show k = 2 * i + 1 ∨ k = 2 * i + 2 by omega) with rfl | rfl
            · exact Int.le_refl _
            · omega
        · refine ⟨2 * i + 1, by omega, by omega, h1, fun k g1 g2 g3 => ?_, .inr (.inr ⟨by omega, by omega, by omega⟩)⟩
          rw [show k = 2 * i + 1 by omega]
          exact Int.le_refl _
      obtain ⟨j, hj0, hj1, hj2, hmin, hor⟩ := hcase
      have HMin := Lib.hid hmin
      have HJ1 := Lib.hid hj1
      have hij : i < j := by omega
      clear hmin hj1
      by_cases hlt : q'.getD j 0 < q'.getD i 0
      · have HLT := Lib.hid (decide_eq_true hlt)
        have HLT2 := Lib.hid hlt
        clear hlt
        rcases hor with ⟨g1, g2, g3, g4⟩ | ⟨g1, g2, g3, g4⟩ | ⟨g1, g3, g4⟩
        case inl =>
          have HG := Lib.hid (decide_eq_true g2)
          clear g2
          go_wp2_with fail
          refine (HLess.out _ _ _ (2 * i + 2) (2 * i + 1) HO.out (by omega) (by omega) (by omega) (by omega)).mono ?_
          rw [HG.out]
          rintro e w5 ⟨rfl, k5⟩
          have hc5 := k5.cell (fun h => h) hcr
          have K5 := Lib.hid k5
          clear k5
          go_wp2_with fail
          refine (HLess.out _ _ _ j i (HO.out.keeps K5.out) (by omega) (by omega) (by omega) (by omega)).mono ?_
          rw [HLT.out]
          rintro e w6 ⟨rfl, k6⟩
          have hc6 := k6.cell (fun h => h) hc5
          have K6 : Hid (Keeps wr w6) := K5.out.keeps k6
          clear k6
          go_wp2_with fail
          refine (HSwap.out _ _ _ i j (HO.out.keeps K6.out) (by omega) (by omega) (by omega) (by omega)).mono ?_
          rintro e w7 ⟨rfl, o7, f7⟩
          have O7 := Lib.hid o7
          have F7 : Hid (Fr (fun k => v.ownBlock = some k) w w7) := (HF.out.keeps K6.out).trans f7 (fun _ _ h => h)
          clear o7 f7
          go_wp2_with fail
          go_roundw
          all_goals go_light
          case rel =>
            exact ⟨j, swapL q' i j, by omega, congrArg (Value.int .i64) (by omega), O7.out, by rw [swapL_length, HL.out], HD2.out.step (by rw [HL.out]; omega) (by omega) hj2 hj0 HJ1.out (by have := HLT2.out; omega) HMin.out, fun y => (memN_swap (by rw [HL.out]; omega) (by omega) hj2 y).trans (HM.out y), fun k hk => by rw [swapL_get q' (by rw [HL.out]; omega) (by rw [HL.out]; omega), if_neg (by omega), if_neg (by omega)]; exact HK.out k hk, F7.out⟩
          case measure => simp [intOf]; omega
        case inr.inl =>
          have HG := Lib.hid (decide_eq_false g2)
          clear g2
          go_wp2_with fail
          refine (HLess.out _ _ _ (2 * i + 2) (2 * i + 1) HO.out (by omega) (by omega) (by omega) (by omega)).mono ?_
          rw [HG.out]
          rintro e w5 ⟨rfl, k5⟩
          have hc5 := k5.cell (fun h => h) hcr
          have K5 := Lib.hid k5
          clear k5
          go_wp2_with fail
          refine (HLess.out _ _ _ j i (HO.out.keeps K5.out) (by omega) (by omega) (by omega) (by omega)).mono ?_
          rw [HLT.out]
          rintro e w6 ⟨rfl, k6⟩
          have hc6 := k6.cell (fun h => h) hc5
          have K6 : Hid (Keeps wr w6) := K5.out.keeps k6
          clear k6
          go_wp2_with fail
          refine (HSwap.out _ _ _ i j (HO.out.keeps K6.out) (by omega) (by omega) (by omega) (by omega)).mono ?_
          rintro e w7 ⟨rfl, o7, f7⟩
          have O7 := Lib.hid o7
          have F7 : Hid (Fr (fun k => v.ownBlock = some k) w w7) := (HF.out.keeps K6.out).trans f7 (fun _ _ h => h)
          clear o7 f7
          go_wp2_with fail
          go_roundw
          all_goals go_light
          case rel =>
            exact ⟨j, swapL q' i j, by omega, congrArg (Value.int .i64) (by omega), O7.out, by rw [swapL_length, HL.out], HD2.out.step (by rw [HL.out]; omega) (by omega) hj2 hj0 HJ1.out (by have := HLT2.out; omega) HMin.out, fun y => (memN_swap (by rw [HL.out]; omega) (by omega) hj2 y).trans (HM.out y), fun k hk => by rw [swapL_get q' (by rw [HL.out]; omega) (by rw [HL.out]; omega), if_neg (by omega), if_neg (by omega)]; exact HK.out k hk, F7.out⟩
          case measure => simp [intOf]; omega
        case inr.inr =>
          go_wp2_with fail
          refine (HLess.out _ _ _ j i HO.out (by omega) (by omega) (by omega) (by omega)).mono ?_
          rw [HLT.out]
          rintro e w6 ⟨rfl, k6⟩
          have hc6 := k6.cell (fun h => h) hcr
          have K6 : Hid (Keeps wr w6) := k6
          clear k6
          go_wp2_with fail
          refine (HSwap.out _ _ _ i j (HO.out.keeps K6.out) (by omega) (by omega) (by omega) (by omega)).mono ?_
          rintro e w7 ⟨rfl, o7, f7⟩
          have O7 := Lib.hid o7
          have F7 : Hid (Fr (fun k => v.ownBlock = some k) w w7) := (HF.out.keeps K6.out).trans f7 (fun _ _ h => h)
          clear o7 f7
          go_wp2_with fail
          go_roundw
          all_goals go_light
          case rel =>
            exact ⟨j, swapL q' i j, by omega, congrArg (Value.int .i64) (by omega), O7.out, by rw [swapL_length, HL.out], HD2.out.step (by rw [HL.out]; omega) (by omega) hj2 hj0 HJ1.out (by have := HLT2.out; omega) HMin.out, fun y => (memN_swap (by rw [HL.out]; omega) (by omega) hj2 y).trans (HM.out y), fun k hk => by rw [swapL_get q' (by rw [HL.out]; omega) (by rw [HL.out]; omega), if_neg (by omega), if_neg (by omega)]; exact HK.out k hk, F7.out⟩
          case measure => simp [intOf]; omega
      · have HLT := Lib.hid (decide_eq_false hlt)
        have HDN : Hid (HeapN q' n) := HD2.out.done (fun k g1 g2 g3 => by have := HMin.out k g1 g2 g3; omega)
        clear hlt
        rcases hor with ⟨g1, g2, g3, g4⟩ | ⟨g1, g2, g3, g4⟩ | ⟨g1, g3, g4⟩
        case inl =>
          have HG := Lib.hid (decide_eq_true g2)
          clear g2
          go_wp2_with fail
          refine (HLess.out _ _ _ (2 * i + 2) (2 * i + 1) HO.out (by omega) (by omega) (by omega) (by omega)).mono ?_
          rw [HG.out]
          rintro e w5 ⟨rfl, k5⟩
          have hc5 := k5.cell (fun h => h) hcr
          have K5 := Lib.hid k5
          clear k5
          go_wp2_with fail
          refine (HLess.out _ _ _ j i (HO.out.keeps K5.out) (by omega) (by omega) (by omega) (by omega)).mono ?_
          rw [HLT.out]
          rintro e w6 ⟨rfl, k6⟩
          have hc6 := k6.cell (fun h => h) hc5
          have K6 : Hid (Keeps wr w6) := K5.out.keeps k6
          clear k6
          go_wp2_with fail
          go_ret
          go_light
          exact ⟨⟨_, rfl⟩, q', HO.out.keeps K6.out, HL.out, HDN.out, HM.out, HK.out, HF.out.keeps K6.out⟩
        case inr.inl =>
          have HG := Lib.hid (decide_eq_false g2)
          clear g2
          go_wp2_with fail
          refine (HLess.out _ _ _ (2 * i + 2) (2 * i + 1) HO.out (by omega) (by omega) (by omega) (by omega)).mono ?_
          rw [HG.out]
          rintro e w5 ⟨rfl, k5⟩
          have hc5 := k5.cell (fun h => h) hcr
          have K5 := Lib.hid k5
          clear k5
          go_wp2_with fail
          refine (HLess.out _ _ _ j i (HO.out.keeps K5.out) (by omega) (by omega) (by omega) (by omega)).mono ?_
          rw [HLT.out]
          rintro e w6 ⟨rfl, k6⟩
          have hc6 := k6.cell (fun h => h) hc5
          have K6 : Hid (Keeps wr w6) := K5.out.keeps k6
          clear k6
          go_wp2_with fail
          go_ret
          go_light
          exact ⟨⟨_, rfl⟩, q', HO.out.keeps K6.out, HL.out, HDN.out, HM.out, HK.out, HF.out.keeps K6.out⟩
        case inr.inr =>
          go_wp2_with fail
          refine (HLess.out _ _ _ j i HO.out (by omega) (by omega) (by omega) (by omega)).mono ?_
          rw [HLT.out]
          rintro e w6 ⟨rfl, k6⟩
          have hc6 := k6.cell (fun h => h) hcr
          have K6 : Hid (Keeps wr w6) := k6
          clear k6
          go_wp2_with fail
          go_ret
          go_light
          exact ⟨⟨_, rfl⟩, q', HO.out.keeps K6.out, HL.out, HDN.out, HM.out, HK.out, HF.out.keeps K6.out⟩
end Go.Proofs.Ytapagllebpcnhaa
