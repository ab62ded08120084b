/- The heap's up, over the queue of things (printed from XQuUp). -/
import Derived.Test.YtbbljpkboojjhaaThDown
namespace Go.Proofs.Ytbbljpkboojjhaa
open Go.RowKit

set_option maxRecDepth 100000 in
set_option maxHeartbeats 1000000 in
theorem heapUp {D : Int → Th} {w : World} {b off N j0 : Nat} {v : Value} {q : List Int} (hc : w.cell? ⟨b, off, none⟩ = some v) (hb : v.ownBlock ≠ some b) (hq : OwnT D 0 w v q) (hN : N = q.length) (hN2 : N ≤ 100000000) (hj0 : j0 < N) (hnum : NumT q) (hd : UpInv (q.map (keyT D)) N j0) :
    Calls Try.prog 42 #[.iface 65 (.pointer (some ⟨b, off, none⟩)), .int .i64 j0] w fun e w' => (e = .returned (.tuple #[])) ∧
      ∃ q', OwnT D 0 w' v q' ∧ q'.length = N ∧ HeapN (q'.map (keyT D)) N ∧ SameN q' q ∧ Fr (fun k => v.ownBlock = some k) w w' := by
  have HC := Lib.hid hc
  have HB := Lib.hid hb
  have HQ := Lib.hid hq
  have HN := Lib.hid hN
  have HD := Lib.hid hd
  have HNU := Lib.hid hnum
  have hml := @meth_less'
  have hms := @meth_swap'
  clear hb hq hN hd hnum
  go_enter Try.func42, Try.ntmps42
  go_wp2_with fail
  go_loopw [1] (fun iv wr => ∃ (j : Nat) (q' : List Int), j < N ∧ iv = .int .i64 j ∧ OwnT D 0 wr v q' ∧ q'.length = N ∧ UpInv (q'.map (keyT D)) N j ∧ SameN q' q ∧ Fr (fun k => v.ownBlock = some k) w wr) (fun iv _ => (intOf iv).toNat)
  case atStart => exact ⟨j0, q, hj0, rfl, HQ.out, HN.out.symm, HD.out, SameN.refl _, Fr.refl _ _⟩
  case round =>
    obtain ⟨j, q', hj, rfl, ho, hl, hd, hm, hf⟩ := hrel
    have hcr := hf.cell (p := ⟨b, off, none⟩) (fun h => HB.out h) hc
    have HO := Lib.hid ho
    have HL := Lib.hid hl
    have HD2 := Lib.hid hd
    have HM := Lib.hid hm
    have HF := Lib.hid hf
    have HNM : Hid (NumT q') := HNU.out.same hm
    clear ho hl hd hm hf
    rcases Nat.eq_zero_or_pos j with rfl | hp
    · go_wp2_with fail
      go_end0
      go_light
      exact ⟨rfl, q', HO.out, HL.out, HD2.out.done (fun h => by omega), HM.out, HF.out⟩
    · obtain ⟨i, hi⟩ : ∃ i, i = (j - 1) / 2 := ⟨_, rfl⟩
      have hi1 : i < j := by omega
      have hi2 : 2 * i + 1 ≤ j := by omega
      have hi3 : j ≤ 2 * i + 2 := by omega
      have HI := Lib.hid hi
      clear hi
      have HLess : Hid (∀ (wx : World) (x y : Int) (a c : Nat), OwnT D 0 wx v q' → x = (a : Nat) → y = (c : Nat) → a < N → c < N → Calls Try.prog 63 #[v, .int .i64 x, .int .i64 y] wx fun e w' => e = .returned (.bool (decide ((q'.map (keyT D)).getD a 0 < (q'.map (keyT D)).getD c 0))) ∧ Keeps wx w') := fun wx x y a c ho hx hy ha hc => by
        rw [hx, hy]
        have := HL.out
        rw [map_get D q' (by omega), map_get D q' (by omega)]
        exact (tLess ho HNM.out (by omega) (by omega) (by omega)).mono fun e w' ⟨he, m, hm⟩ => ⟨he, by rw [hm]; exact (Fr.refl _ _).drewN _⟩
      have HSwap : Hid (∀ (wx : World) (x y : Int) (a c : Nat), OwnT D 0 wx v q' → x = (a : Nat) → y = (c : Nat) → a < N → c < N → a ≠ c → Calls Try.prog 64 #[v, .int .i64 x, .int .i64 y] wx fun e w' => e = .returned (.tuple #[]) ∧ OwnT D 0 w' v (swapL q' a c) ∧ Fr (fun k => v.ownBlock = some k) wx w') := fun wx x y a c ho hx hy ha hc hac => by
        rw [hx, hy]
        have := HL.out
        exact tSwap ho (by omega) (by omega) hac (by omega)
      go_wp2_with fail
      refine (HLess.out _ _ _ j i HO.out (by omega) (by omega) (by omega) (by omega)).mono ?_
      by_cases hlt : (q'.map (keyT D)).getD j 0 < (q'.map (keyT D)).getD i 0
      · rw [decide_eq_true hlt]
        have HLT2 := Lib.hid hlt
        clear hlt
        rintro e w6 ⟨rfl, k6⟩
        have hc6 := k6.cell (fun h => h) hcr
        have K6 := Lib.hid k6
        clear k6
        go_wp2_with fail
        refine (HSwap.out _ _ _ i j (HO.out.keeps K6.out) (by omega) (by omega) (by omega) (by omega) (by omega)).mono ?_
        rintro e w7 ⟨rfl, o7, f7⟩
        have O7 := Lib.hid o7
        have F7 : Hid (Fr (fun k => v.ownBlock = some k) w w7) := (HF.out.keeps K6.out).trans f7 (fun _ _ h => h)
        clear o7 f7
        go_wp2_with fail
        go_roundw
        all_goals go_light
        case rel =>
          exact ⟨i, swapL q' i j, by omega, congrArg (Value.int .i64) (by omega), O7.out, by rw [swapL_length, HL.out], by rw [map_swap D q' (by rw [HL.out]; omega) (by rw [HL.out]; omega)]; exact HD2.out.step (by rw [List.length_map, HL.out]; omega) hj hp HI.out.symm (by have := HLT2.out; omega), (sameN_swap (by rw [HL.out]; omega) (by rw [HL.out]; omega)).trans HM.out, F7.out⟩
        case measure => simp [intOf]; omega
      · have HDN : Hid (HeapN (q'.map (keyT D)) N) := HD2.out.done (fun h => by rw [← HI.out]; omega)
        rw [decide_eq_false hlt]
        clear hlt
        rintro e w6 ⟨rfl, k6⟩
        have K6 := Lib.hid k6
        clear k6
        go_wp2_with fail
        go_end0
        go_light
        exact ⟨rfl, q', HO.out.keeps K6.out, HL.out, HDN.out, HM.out, HF.out.keeps K6.out⟩
end Go.Proofs.Ytbbljpkboojjhaa
