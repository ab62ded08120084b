/- AllocWhole: the walk. -/
import Derived.Test.YtapagllebpcnhaaMpRuns
namespace Go.Proofs.Ytapagllebpcnhaa
open Go.RowKit

theorem isB_at {st : List Int} {j : Nat} (hj : j < st.length) (x : Int) : isB 10 st ((10 : Int) + (j : Int)) x = decide (st.getD j 0 = x) := by
  unfold isB
  rw [show ((10 : Int) + (j : Int) - ((10 : Nat) : Int)).toNat = j by omega]
  exact decide_eq_decide.2 ⟨fun h => h.2.2, fun h => ⟨by omega, by omega, h⟩⟩
theorem takenB {st : List Int} {j : Nat} (hj : j < st.length) (hv : 0 ≤ st.getD j 0 ∧ st.getD j 0 ≤ 2) : (isB 10 st ((10 : Int) + (j : Int)) 1 || isB 10 st ((10 : Int) + (j : Int)) 2) = decide (st.getD j 0 ≠ 0) := by
  rw [isB_at hj, isB_at hj]
  by_cases h1 : st.getD j 0 = 1
  · rw [h1]; decide
  · by_cases h2 : st.getD j 0 = 2
    · rw [h2]; decide
    · have h0 : st.getD j 0 = 0 := by omega
      rw [h0]; decide
theorem drop_next {st : List Int} {k : Nat} (hk : k < st.length) (h : ∀ i, i < k → st.getD i 0 ≠ 1) : ∀ i, i < k + 1 → (dropS 10 st ((10 : Int) + (k : Int))).2.getD i 0 ≠ 1 := by
  intro i hi
  unfold dropS
  rw [isB_at hk, show ((10 : Int) + (k : Int) - ((10 : Nat) : Int)).toNat = k by omega]
  by_cases h1 : st.getD k 0 = 1
  · rw [if_pos (decide_eq_true h1)]
    show (st.set k 2).getD i 0 ≠ 1
    rw [set_get _ _ _ _ hk]
    split
    · decide
    · exact h i (by omega)
  · rw [if_neg (by simpa using h1)]
    show st.getD i 0 ≠ 1
    by_cases he : i = k
    · rw [he]; exact h1
    · exact h i (by omega)
theorem settle_all {st : List Int} (hl : st.length = 30) (hv : ∀ i, i < st.length → 0 ≤ st.getD i 0 ∧ st.getD i 0 ≤ 2) (h : ∀ i, i < 30 → st.getD i 0 ≠ 1) : settleS st = List.replicate 30 0 := by
  apply List.ext_getElem
  · rw [settleS_length, hl, List.length_replicate]
  · intro i h1 h2
    rw [List.getElem_replicate]
    rw [settleS_length] at h1
    have g := settleS_get st h1
    have g2 := hv i h1
    have g3 := h i (by omega)
    rw [List.getD_eq_getElem?_getD, List.getElem?_eq_getElem (by rw [settleS_length]; exact h1)] at g
    simp only [Option.getD_some] at g
    rw [g]
    split
    · rfl
    · omega

set_option maxRecDepth 100000 in
set_option maxHeartbeats 4000000 in
theorem walkAllocWhole {v : Value} {ds : List (List Int)} {w : World} (h : Recs 2 w v ds) (hz : ds.length ≤ 8796093021952) :
    Calls Try.prog 7 #[v] w fun e w' => e = .returned (.bool true) ∧ Keeps w w' := by
  have HL := Lib.hid h
  obtain ⟨_, la, lc, rfl, _, _, _⟩ := h
  obtain ⟨n, hn⟩ : ∃ n, n = ds.length := ⟨_, rfl⟩
  rw [← hn] at hz HL ⊢
  clear hn
  go_enter Try.func7, Try.ntmps7
  go_wp2_with fail
  refine (mapNew (R := fun k => k < w.heap.size) (L := 10) (N := 30) (by omega) (fun _ h => h)).mono ?_
  rintro e w1 ⟨b, rfl, ⟨s, h1⟩, k1⟩
  have H1 := Lib.hid h1
  have K1 := Lib.hid k1
  clear h1 k1
  go_wp2_with fail
  refine (refNew (L := 10) (N := 30) (by omega)).mono ?_
  rintro e w2 ⟨rb, rl, rfl, ⟨g1, g2, g3, g4⟩, hr2, k2⟩
  obtain ⟨R, hR⟩ : ∃ R : Nat → Prop, R = fun k => k < w.heap.size ∨ (w1.heap.size ≤ k ∧ k < w2.heap.size) := ⟨_, rfl⟩
  have HB2 : Hid (Both R w2 b s rb rl 10 (List.replicate 30 0) 0 30) := by
    rw [hR]
    exact ⟨H1.out.widen k2, hr2, .inr ⟨g1, g2⟩, .inr ⟨g3, g4⟩⟩
  have K2 : Hid (Keeps w w2) := K1.out.keeps k2
  have HS0 : Hid (∀ i, i < w.heap.size → ¬ (¬ R i ∨ i = rb ∨ i = rl)) := fun i hi h => by
    have hs1 := K1.out.size
    rcases h with h | h | h
    · exact h (by rw [hR]; exact .inl hi)
    · omega
    · omega
  clear g1 g2 g3 g4 hr2 k2 hR
  go_wp2_with fail
  go_loopw [7] (fun iv wr => ∃ (k : Nat) (st : List Int) (rs : Nat), k ≤ n ∧ iv = .int .i64 k ∧ st.length = 30 ∧ Both R wr b s rb rl 10 st rs (30 + k) ∧ Keeps w wr) (fun iv _ => n - (intOf iv).toNat)
  case atStart => exact ⟨0, _, 0, by omega, rfl, by simp, HB2.out, K2.out⟩
  case round =>
    obtain ⟨k, st, rs, hk, rfl, hst, hb, hkp⟩ := hrel
    have HB := Lib.hid hb
    have HK := Lib.hid hkp
    have HST := Lib.hid hst
    clear hb hkp
    by_cases hlt : k < n
    case pos =>
      obtain ⟨lb, lo, hla, hlb, q0, q1, c0, c1, b0, b1⟩ := HL.out.row2 hlt
      subst hla
      have c0 := HK.out.cell (fun h => h) c0
      have c1 := HK.out.cell (fun h => h) c1
      clear hst
      go_wp2_with fail
      refine (doesBoth HB.out (by omega) b0 b1).mono ?_
      rintro e w5 ⟨rfl, hb5, hf5⟩
      have HB5 := Lib.hid hb5
      have HK5 : Hid (Keeps w w5) := HK.out.trans hf5 (fun i hi h => HS0.out i hi h)
      clear hb5 hf5
      go_wp2_with fail
      go_roundw
      all_goals go_light
      case rel => exact ⟨k + 1, _, _, by omega, by go_num, by rw [doesA_length]; exact HST.out, HB5.out, HK5.out⟩
      case measure => simp [intOf]; omega
    case neg =>
      have HM : Hid (MpX R wr b s 10 st rs (30 + n)) := HB.out.1.mono (by omega)
      have HSR : Hid (∀ i, i < w.heap.size → ¬ ¬ R i) := fun i hi h => HS0.out i hi (.inl h)
      have hcl : cnt st 0 ≤ 30 := by have := cnt_le st 0; omega
      have hvv : ∀ i, i < 30 → 0 ≤ st.getD i 0 ∧ st.getD i 0 ≤ 2 := by
        obtain ⟨_, _, _, hx⟩ := HM.out
        intro i hi
        exact hx.val i (by omega)
      have HV := Lib.hid hvv
      clear hvv
      go_wp2_with fail
      refine (mapRelease HM.out).mono ?_
      rintro e w3 ⟨rfl, h3, f3⟩
      have H3 := Lib.hid h3
      have K3 : Hid (Keeps w w3) := HK.out.trans f3 (fun i hi h => HSR.out i hi h)
      clear h3 f3
      go_wp2_with fail
      go_loopw [8, 9] (fun tv iv wr => ∃ k t : Nat, k ≤ 30 ∧ iv = .int .i64 ((10 : Int) + (k : Int)) ∧ tv = .int .i64 (t : Int) ∧ t + cnt (st.take k) 0 = k ∧ MpX R wr b s 10 st 0 (30 + n) ∧ Keeps w wr) (fun _ iv _ => 40 - (intOf iv).toNat)
      case atStart => exact ⟨0, 0, by omega, rfl, rfl, rfl, H3.out, K3.out⟩
      case round =>
        obtain ⟨k, t, hk2, rfl, rfl, ht, hm2, hkp2⟩ := hrel
        have HM2 := Lib.hid hm2
        have HK2 := Lib.hid hkp2
        have hcs : Hid (k < 30 → cnt (st.take (k + 1)) 0 = cnt (st.take k) 0 + (if st.getD k 0 = 0 then 1 else 0)) := fun h => cnt_take st 0 (by omega)
        clear hm2 hkp2
        by_cases hlt2 : k < 30
        case pos =>
          have htk := mapTaken (n := (10 : Int) + (k : Int)) HM2.out (by omega)
          rw [takenB (by omega) (HV.out k hlt2)] at htk
          have hcs := hcs.out hlt2
          by_cases h0 : st.getD k 0 = 0
          case pos =>
            rw [decide_eq_false (fun h => h h0)] at htk
            rw [if_pos h0] at hcs
            have HT : Hid (t + cnt (st.take (k + 1)) 0 = k + 1) := by show _ = _; omega
            have HTK := Lib.hid htk
            clear htk hcs h0 ht
            go_wp2_with fail
            refine HTK.out.mono ?_
            rintro e w5 ⟨rfl, k5⟩
            have H5 := Lib.hid (HM2.out.keeps k5)
            have K5 : Hid (Keeps w w5) := HK2.out.keeps k5
            clear k5
            go_wp2_with fail
            go_roundw
            all_goals go_light
            case rel => exact ⟨k + 1, t, by omega, by go_num, rfl, HT.out, H5.out, K5.out⟩
            case measure => simp [intOf]; omega
          case neg =>
            rw [decide_eq_true h0] at htk
            rw [if_neg h0] at hcs
            have HT : Hid (t + 1 + cnt (st.take (k + 1)) 0 = k + 1) := by show _ = _; omega
            have HTK := Lib.hid htk
            have htk2 : t ≤ k := by omega
            clear htk hcs h0 ht
            go_wp2_with fail
            refine HTK.out.mono ?_
            rintro e w5 ⟨rfl, k5⟩
            have H5 := Lib.hid (HM2.out.keeps k5)
            have K5 : Hid (Keeps w w5) := HK2.out.keeps k5
            clear k5
            go_wp2_with fail
            go_roundw
            all_goals go_light
            case rel => exact ⟨k + 1, t + 1, by omega, by go_num, by go_num, HT.out, H5.out, K5.out⟩
            case measure => simp [intOf]; omega
        case neg =>
          rw [show k = 30 by omega, List.take_of_length_le (by omega)] at ht
          have hfr := mapFree HM2.out
          obtain ⟨F, hF⟩ : ∃ F, F = cnt st 0 := ⟨_, rfl⟩
          rw [← hF] at hfr ht
          have HFR := Lib.hid hfr
          have htf : (t : Int) + ((F : Int) - ((0 : Nat) : Int)) = 30 := by omega
          have hne : ((t : Int) + (F : Int) != 30) = false := by simp; omega
          have hfl : F ≤ 30 := by omega
          have htl : t ≤ 30 := by omega
          clear hfr hF ht hcl
          go_wp2_with fail
          refine HFR.out.mono ?_
          rintro e w6 ⟨rfl, k6⟩
          have H6 := Lib.hid (HM2.out.keeps k6)
          have K6 : Hid (Keeps w w6) := HK2.out.keeps k6
          clear k6 htf
          go_wp2_with fail
          go_loopw [10] (fun iv wx => ∃ (i : Nat) (st3 : List Int), i ≤ 30 ∧ iv = .int .i64 ((10 : Int) + (i : Int)) ∧ st3.length = 30 ∧ MpX R wx b s 10 st3 0 (30 + n + i) ∧ (∀ j, j < i → st3.getD j 0 ≠ 1) ∧ Keeps w wx) (fun iv _ => 40 - (intOf iv).toNat)
          case atStart => exact ⟨0, st, by omega, rfl, HST.out, H6.out, fun j hj => by omega, K6.out⟩
          case round =>
            obtain ⟨i, st3, hi3, rfl, hl3, hm3, hno3, hkp3⟩ := hrel
            have HM3 := Lib.hid hm3
            have HK3 := Lib.hid hkp3
            have HN3 := Lib.hid hno3
            have HL3 := Lib.hid hl3
            clear hm3 hkp3 hno3
            by_cases hlt3 : i < 30
            case pos =>
              have HNN : Hid (∀ j, j < i + 1 → (dropS 10 st3 ((10 : Int) + (i : Int))).2.getD j 0 ≠ 1) := drop_next (by omega) HN3.out
              have HLL : Hid ((dropS 10 st3 ((10 : Int) + (i : Int))).2.length = 30) := by show _ = _; rw [dropS_length]; exact hl3
              clear hl3
              go_wp2_with fail
              refine (mapDrop HM3.out (by omega)).mono ?_
              rintro e w9 ⟨rfl, h9, f9⟩
              have H9 := Lib.hid h9
              have K9 : Hid (Keeps w w9) := HK3.out.trans f9 (fun i hi h => HSR.out i hi h)
              clear h9 f9
              go_wp2_with fail
              go_roundw
              all_goals go_light
              case rel => exact ⟨i + 1, _, by omega, by go_num, HLL.out, H9.out, HNN.out, K9.out⟩
              case measure => simp [intOf]; omega
            case neg =>
              have hse := settle_all (st := st3) HL3.out (by
                obtain ⟨_, _, _, hx⟩ := HM3.out
                exact hx.val) (fun j hj => HN3.out j (by omega))
              have hsm := mapSettle HM3.out (by omega)
              rw [hse] at hsm
              have HSM := Lib.hid hsm
              clear hse hsm hl3
              go_wp2_with fail
              refine HSM.out.mono ?_
              rintro e w10 ⟨rfl, h10, f10⟩
              have H10 := Lib.hid h10
              have K10 : Hid (Keeps w w10) := HK3.out.trans f10 (fun i hi h => HSR.out i hi h)
              have hrn := mapRuns h10
              rw [show runsP 10 (List.replicate 30 0) (List.replicate 30 (0 : Int)).length = [[10, 30]] by decide] at hrn
              have HRN := Lib.hid hrn
              clear h10 f10 hrn
              go_wp2_with fail
              refine HRN.out.mono ?_
              rintro e w11 ⟨xv, rfl, hxo, k11⟩
              obtain ⟨g, c, rfl, _, _, _, _⟩ := hxo.formNe (by decide)
              obtain ⟨c0, _⟩ := hxo.at (i := 0) (j := 0) (by decide) (by decide)
              obtain ⟨c1, _⟩ := hxo.at (i := 0) (j := 1) (by decide) (by decide)
              have C0 : Hid (w11.cell? ⟨g, 0, none⟩ = some (.int .i64 10)) := c0
              have C1 : Hid (w11.cell? ⟨g, 1, none⟩ = some (.int .i64 30)) := c1
              have K11 : Hid (Keeps w w11) := K10.out.keeps k11
              have hfr := mapFree (H10.out.keeps k11)
              rw [cnt_rep0] at hfr
              have HFR2 := Lib.hid hfr
              clear k11 hfr hxo c0 c1
              go_wp2_with fail
              refine HFR2.out.mono ?_
              rintro e w12 ⟨rfl, k12⟩
              have c0 := k12.cell (fun h => h) C0.out
              have c1 := k12.cell (fun h => h) C1.out
              have K12 : Hid (Keeps w w12) := K11.out.keeps k12
              clear k12
              go_wp2_with fail
              refine (livesAlloc _).mono ?_
              rintro e w13 ⟨rfl, k13⟩
              have K13 := Lib.hid k13
              clear k13
              go_wp2_with fail
              go_ret
              go_light
              exact ⟨rfl, K12.out.keeps K13.out⟩
end Go.Proofs.Ytapagllebpcnhaa
