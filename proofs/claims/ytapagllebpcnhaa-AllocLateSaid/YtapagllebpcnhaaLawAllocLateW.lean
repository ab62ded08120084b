/- AllocLate: the walk. -/
import Derived.Test.YtapagllebpcnhaaAllocStart
namespace Go.Proofs.Ytapagllebpcnhaa
open Go.RowKit

theorem cnt_settle (st : List Int) : cnt (settleS st) 0 = cnt st 0 + cnt st 2 := by
  have key : ∀ k, k ≤ st.length → cnt (settleK st k) 0 + cnt (settleK st k) 2 = cnt st 0 + cnt st 2 := by
    intro k
    induction k with
    | zero => intro _; rfl
    | succ k ih =>
      intro hk
      have h1 := ih (by omega)
      simp only [settleK]
      split
      case isTrue h2 =>
        have hl : k < (settleK st k).length := by rw [settleK_length]; omega
        have g0 := cnt_set 0 0 (settleK st k) k hl
        have g2 := cnt_set 2 0 (settleK st k) k hl
        rw [h2] at g0 g2
        simp at g0 g2
        omega
      case isFalse => exact h1
  have h1 := key st.length (Nat.le_refl _)
  have h2 := settleS_cnt2 st
  unfold settleS at *
  omega

/-- A row of forty yeses and noes at block B. -/
def Was (w : World) (B : Nat) (f : Nat → Bool) : Prop := ∃ W E, w.heap[B]? = some (.cells W E (0, 0)) ∧ W.size = 40 ∧ ∀ i, i < 40 → W[i]? = some (.bool (f i))
theorem Was.fr {S : Nat → Prop} {w w' : World} {B : Nat} {f : Nat → Bool} (h : Was w B f) (fr : Fr S w w') (hB : ¬ S B) : Was w' B f := by
  obtain ⟨W, E, h1, h2⟩ := h
  exact ⟨W, E, fr.heap hB h1, h2⟩
theorem Was.set {w : World} {B : Nat} {f f' : Nat → Bool} (h : Was w B f) {k : Nat} {x : Bool} (hk : k < 40) (hf : ∀ i, i < 40 → f' i = if i = k then x else f i) : Was (w.setCell ⟨B, k, none⟩ (.bool x)) B f' := by
  obtain ⟨W, E, h1, h2, h3⟩ := h
  refine ⟨W.setIfInBounds k (.bool x), E, heap_set h1 k _, by simpa using h2, fun i hi => ?_⟩
  rw [hf i hi]
  by_cases he : i = k
  · subst he; simp [h2, hk]
  · rw [if_neg he, Array.getElem?_setIfInBounds_ne (fun e => he e.symm)]
    exact h3 i hi
theorem Was.at {w : World} {B : Nat} {f : Nat → Bool} (h : Was w B f) {k : Nat} (hk : k < 40) : w.cell? ⟨B, k, none⟩ = some (.bool (f k)) ∧ w.frozen? ⟨B, k, none⟩ = false := by
  obtain ⟨W, E, h1, h2, h3⟩ := h
  exact ⟨by rw [cell_of_row w B k _ _ _ h1]; exact h3 k hk, frozen_no h1 k⟩
/-- which numbers of the first k are no longer free -/
def wasF (st : List Int) (k : Nat) (i : Nat) : Bool := decide (10 ≤ i ∧ i < k ∧ st.getD (i - 10) 0 ≠ 0)
theorem wasF_succ {st : List Int} {k : Nat} {x : Bool} (hx : x = decide (st.getD k 0 ≠ 0)) (i : Nat) : wasF st (10 + (k + 1)) i = if i = 10 + k then x else wasF st (10 + k) i := by
  unfold wasF
  split
  case isTrue h =>
    subst h
    rw [hx, Nat.add_sub_cancel_left]
    exact decide_eq_decide.2 ⟨fun h => h.2.2, fun h => ⟨by omega, by omega, h⟩⟩
  case isFalse h => exact decide_eq_decide.2 ⟨fun h1 => ⟨h1.1, by omega, h1.2.2⟩, fun h1 => ⟨h1.1, by omega, h1.2.2⟩⟩
theorem wasF_set {st : List Int} {j : Nat} (hl : st.length = 30) (hj : j < 30) (i : Nat) (hi : i < 40) : wasF (st.set j 1) 40 i = if i = 10 + j then true else wasF st 40 i := by
  unfold wasF
  split
  case isTrue h =>
    subst h
    rw [Nat.add_sub_cancel_left, set_get _ _ _ _ (by omega), if_pos rfl]
    exact decide_eq_true ⟨by omega, by omega, by decide⟩
  case isFalse h =>
    refine decide_eq_decide.2 ⟨fun h1 => ?_, fun h1 => ?_⟩
    · refine ⟨h1.1, h1.2.1, ?_⟩
      have := h1.2.2
      rw [set_get _ _ _ _ (by omega), if_neg (by omega)] at this
      exact this
    · refine ⟨h1.1, h1.2.1, ?_⟩
      rw [set_get _ _ _ _ (by omega), if_neg (by omega)]
      exact h1.2.2
theorem wasB {st : List Int} {j : Nat} (hj : j < st.length) (hv : 0 ≤ st.getD j 0 ∧ st.getD j 0 ≤ 2) : (isB 10 st ((10 : Int) + (j : Int)) 1 || isB 10 st ((10 : Int) + (j : Int)) 2) = decide (st.getD j 0 ≠ 0) := by
  have e : ∀ x : Int, isB 10 st ((10 : Int) + (j : Int)) x = decide (st.getD j 0 = x) := fun x => by
    unfold isB
    rw [show ((10 : Int) + (j : Int) - ((10 : Nat) : Int)).toNat = j by omega]
    exact decide_eq_decide.2 ⟨fun h => h.2.2, fun h => ⟨by omega, by omega, h⟩⟩
  rw [e, e]
  by_cases h1 : st.getD j 0 = 1
  · rw [h1]; decide
  · by_cases h2 : st.getD j 0 = 2
    · rw [h2]; decide
    · have h0 : st.getD j 0 = 0 := by omega
      rw [h0]; decide

set_option maxRecDepth 100000 in
set_option maxHeartbeats 4000000 in
theorem walkAllocLate {v : Value} {ds : List (List Int)} {w : World} (h : Recs 2 w v ds) (hz : ds.length ≤ 8796093021952) :
    Calls Try.prog 4 #[v] w fun e w' => e = .returned (.bool true) ∧ Keeps w w' := by
  have HL := Lib.hid h
  obtain ⟨_, la, lc, rfl, _, _, _⟩ := h
  obtain ⟨n, hn⟩ : ∃ n, n = ds.length := ⟨_, rfl⟩
  rw [← hn] at hz HL ⊢
  clear hn
  go_enter Try.func4, Try.ntmps4
  go_wp2_with fail
  refine (mapNew (R := fun k => k < w.heap.size) (L := 10) (N := 30) (by omega) (fun _ h => h)).mono ?_
  rintro e w1 ⟨b, rfl, ⟨s, h1⟩, k1⟩
  have H1 := Lib.hid h1
  have K1 := Lib.hid k1
  clear h1 k1
  go_wp2_with fail
  refine (refNew (L := 10) (N := 30) (by omega)).mono ?_
  rintro e w2 ⟨rb, rl, rfl, ⟨g1, g2, g3, g4⟩, hr2, k2⟩
  obtain ⟨R, hR⟩ : ∃ R : Nat → Prop, R = fun k => k < w.heap.size ∨ (w1.heap.size ≤ k ∧ k < w2.heap.size) := ⟨_, rfl⟩
  have HB2 : Hid (Both R w2 b s rb rl 10 (List.replicate 30 0) 0 30) := by
    rw [hR]
    exact ⟨H1.out.widen k2, hr2, .inr ⟨g1, g2⟩, .inr ⟨g3, g4⟩⟩
  have K2 : Hid (Keeps w w2) := K1.out.keeps k2
  have HS0 : Hid (∀ i, i < w.heap.size → ¬ (¬ R i ∨ i = rb ∨ i = rl)) := fun i hi h => by
    have hs1 := K1.out.size
    rcases h with h | h | h
    · exact h (by rw [hR]; exact .inl hi)
    · omega
    · omega
  clear g1 g2 g3 g4 hr2 k2 hR
  go_wp2_with fail
  go_loopw [7] (fun iv wr => ∃ (k : Nat) (st : List Int) (rs : Nat), k ≤ n ∧ iv = .int .i64 k ∧ st.length = 30 ∧ Both R wr b s rb rl 10 st rs (30 + k) ∧ Keeps w wr) (fun iv _ => n - (intOf iv).toNat)
  case atStart => exact ⟨0, _, 0, by omega, rfl, by simp, HB2.out, K2.out⟩
  case round =>
    obtain ⟨k, st, rs, hk, rfl, hst, hb, hkp⟩ := hrel
    have HB := Lib.hid hb
    have HK := Lib.hid hkp
    have HST := Lib.hid hst
    clear hb hkp
    by_cases hlt : k < n
    case pos =>
      obtain ⟨lb, lo, hla, hlb, q0, q1, c0, c1, b0, b1⟩ := HL.out.row2 hlt
      subst hla
      have c0 := HK.out.cell (fun h => h) c0
      have c1 := HK.out.cell (fun h => h) c1
      clear hst
      go_wp2_with fail
      refine (doesBoth HB.out (by omega) b0 b1).mono ?_
      rintro e w5 ⟨rfl, hb5, hf5⟩
      have HB5 := Lib.hid hb5
      have HK5 : Hid (Keeps w w5) := HK.out.trans hf5 (fun i hi h => HS0.out i hi h)
      clear hb5 hf5
      go_wp2_with fail
      go_roundw
      all_goals go_light
      case rel => exact ⟨k + 1, _, _, by omega, by go_num, by rw [doesA_length]; exact HST.out, HB5.out, HK5.out⟩
      case measure => simp [intOf]; omega
    case neg =>
      have HM : Hid (MpX R wr b s 10 st rs (30 + n)) := HB.out.1.mono (by omega)
      have HSR : Hid (∀ i, i < w.heap.size → ¬ ¬ R i) := fun i hi h => HS0.out i hi (.inl h)
      have hcl : cnt st 0 ≤ 30 := by have := cnt_le st 0; omega
      have hvv : ∀ i, i < 30 → 0 ≤ st.getD i 0 ∧ st.getD i 0 ≤ 2 := by
        obtain ⟨_, _, _, hx⟩ := HM.out
        intro i hi
        exact hx.val i (by omega)
      have HV := Lib.hid hvv
      clear hvv
      go_wp2_with fail
      refine (mapRelease HM.out).mono ?_
      rintro e w3 ⟨rfl, h3, f3⟩
      have H3 := Lib.hid h3
      have K3 : Hid (Keeps w w3) := HK.out.trans f3 (fun i hi h => HSR.out i hi h)
      clear h3 f3
      have KA : Keeps w3 (w3.alloc (.cells (Array.replicate 40 (.bool false)) 41)) := (Fr.refl _ w3).alloc _
      obtain ⟨B, hB⟩ : ∃ B, B = w3.heap.size := ⟨_, rfl⟩
      have hwb : w.heap.size ≤ B := by rw [hB]; exact K3.out.size
      obtain ⟨R', hR'⟩ : ∃ R' : Nat → Prop, R' = fun k => R k ∨ (w3.heap.size ≤ k ∧ k < (w3.alloc (.cells (Array.replicate 40 (.bool false)) 41)).heap.size) := ⟨_, rfl⟩
      have HM4 : Hid (MpX R' (w3.alloc (.cells (Array.replicate 40 (.bool false)) 41)) b s 10 st 0 (30 + n)) := by
        rw [hR']
        exact H3.out.widen KA
      have HRB : Hid (R' B) := by
        rw [hR', hB]
        exact .inr ⟨Nat.le_refl _, (Array.getElem?_eq_some_iff.1 (heap_alloc_new w3 _)).1⟩
      have HSR' : Hid (∀ i, i < w.heap.size → ¬ ¬ R' i) := fun i hi h => HSR.out i hi (fun h1 => h (by rw [hR']; exact .inl h1))
      have HW4 : Hid (Was (w3.alloc (.cells (Array.replicate 40 (.bool false)) 41)) B (wasF st 10)) := by
        rw [hB]
        refine ⟨_, _, heap_alloc_new w3 _, by simp, fun i hi => ?_⟩
        rw [show wasF st 10 i = false from decide_eq_false (by omega)]
        simp [hi]
      have K4 : Hid (Keeps w (w3.alloc (.cells (Array.replicate 40 (.bool false)) 41))) := K3.out.keeps KA
      clear hR' KA
      go_wp2_with fail
      rw [← hB]
      have HB3 := Lib.hid hB
      clear hB
      go_loopw [9] (fun iv wr => ∃ k : Nat, k ≤ 30 ∧ iv = .int .i64 ((10 : Int) + (k : Int)) ∧ MpX R' wr b s 10 st 0 (30 + n) ∧ Was wr B (wasF st (10 + k)) ∧ Keeps w wr) (fun iv _ => 40 - (intOf iv).toNat)
      case atStart => exact ⟨0, by omega, rfl, HM4.out, HW4.out, K4.out⟩
      case round =>
        obtain ⟨k, hk2, rfl, hm2, hwas, hkp2⟩ := hrel
        have HM2 := Lib.hid hm2
        have HWS := Lib.hid hwas
        have HK2 := Lib.hid hkp2
        clear hm2 hwas hkp2
        by_cases hlt2 : k < 30
        case pos =>
          have htk := mapTaken (n := (10 : Int) + (k : Int)) HM2.out (by omega)
          rw [wasB (by omega) (HV.out k hlt2)] at htk
          have HTK := Lib.hid htk
          obtain ⟨x, hx⟩ : ∃ x, x = decide (st.getD k 0 ≠ 0) := ⟨_, rfl⟩
          rw [← hx] at HTK
          have HX := Lib.hid hx
          clear htk hx
          go_wp2_with fail
          refine HTK.out.mono ?_
          rintro e w5 ⟨rfl, k5⟩
          have hws5 := HWS.out.fr k5 (fun h => h)
          have H5 := Lib.hid (HM2.out.keeps k5)
          have K5 : Hid (Keeps w w5) := HK2.out.keeps k5
          obtain ⟨cx, fx⟩ := hws5.at (k := 10 + k) (by omega)
          have HWS5 := Lib.hid hws5
          clear k5 hws5
          go_wp2_with fail
          go_roundw
          all_goals go_light
          case rel => exact ⟨k + 1, by omega, by go_num, H5.out.fr ((Fr.refl (fun i => i = B) w5).setAt rfl _ _) (fun i hi => by rw [hi]; exact HRB.out), HWS5.out.set (by omega) (fun i hi => wasF_succ HX.out i), K5.out.trans ((Fr.refl (fun i => i = B) w5).setAt rfl _ _) (fun i hi h => by omega)⟩
          case measure => simp [intOf]; omega
        case neg =>
          have hws40 : Was wr B (wasF st 40) := by
            have := HWS.out
            rw [show 10 + k = 40 by omega] at this
            exact this
          have hdr := mapDropped HM2.out
          have hfr := mapFree HM2.out
          obtain ⟨F, hF⟩ : ∃ F, F = cnt st 0 := ⟨_, rfl⟩
          obtain ⟨D, hD⟩ : ∃ D, D = cnt st 2 := ⟨_, rfl⟩
          rw [← hD] at hdr
          rw [← hF] at hfr hcl
          have HDR := Lib.hid hdr
          have HFR := Lib.hid hfr
          have HF := Lib.hid hF
          have HD := Lib.hid hD
          have HWS4 := Lib.hid hws40
          clear hdr hfr hws40 hF hD
          go_wp2_with fail
          refine HDR.out.mono ?_
          rintro e w5 ⟨rfl, hw5⟩
          rw [hw5]
          clear hw5
          go_wp2_with fail
          refine HFR.out.mono ?_
          rintro e w6 ⟨rfl, k6⟩
          have H6 := Lib.hid (HM2.out.keeps k6)
          have K6 : Hid (Keeps w w6) := HK2.out.keeps k6
          have HWS6 := Lib.hid (HWS4.out.fr k6 (fun h => h))
          clear k6
          go_wp2_with fail
          go_loopw [12] (fun iv wx => ∃ (i : Nat) (st3 : List Int), i ≤ F ∧ iv = .int .i64 i ∧ st3.length = 30 ∧ MpX R' wx b s 10 st3 0 (30 + n) ∧ Was wx B (wasF st3 40) ∧ cnt st3 0 + i = F ∧ cnt st3 2 = D ∧ Keeps w wx) (fun iv _ => F - (intOf iv).toNat)
          case atStart => exact ⟨0, st, by omega, rfl, HST.out, H6.out, HWS6.out, HF.out.symm, HD.out.symm, K6.out⟩
          case round =>
            obtain ⟨i, st3, hi3, rfl, hl3, hm3, hws3, hc0, hc2, hkp3⟩ := hrel
            have HM3 := Lib.hid hm3
            have HK3 := Lib.hid hkp3
            have HWS3 := Lib.hid hws3
            have HC2 := Lib.hid hc2
            have HL3 := Lib.hid hl3
            clear hm3 hkp3 hws3 hc2
            by_cases hlt3 : i < F
            case pos =>
              obtain ⟨j, hj⟩ := ffree_pos (st := st3) (by omega)
              obtain ⟨hj1, hj2, _⟩ := ffree_some hj
              have htk := mapTake HM3.out (by omega)
              rw [show takeA 10 st3 0 = (10 + j, true, st3.set j 1, 0) by rw [takeA, hj]] at htk
              have HTK := Lib.hid htk
              have hcs0 := cnt_set 0 1 st3 j hj1
              have hcs2 := cnt_set 2 1 st3 j hj1
              rw [hj2] at hcs0 hcs2
              simp at hcs0 hcs2
              have HC0 : Hid (cnt (st3.set j 1) 0 + (i + 1) = F) := by show _ = _; omega
              have HC2' : Hid (cnt (st3.set j 1) 2 = D) := by show _ = _; rw [hcs2]; exact HC2.out
              have HL3' : Hid ((st3.set j 1).length = 30) := by show _ = _; simpa using hl3
              have hj30 : j < 30 := by omega
              have HFL : Hid (wasF st3 40 (10 + j) = false) := decide_eq_false (fun h => h.2.2 (by rw [Nat.add_sub_cancel_left]; exact hj2))
              clear htk hj hj1 hj2 hcs0 hcs2 hl3 hc0
              go_wp2_with fail
              refine HTK.out.mono ?_
              rintro e w9 ⟨rfl, h9, f9⟩
              have H9 : Hid (MpX R' w9 b s 10 (st3.set j 1) 0 (30 + n)) := h9
              have K9 : Hid (Keeps w w9) := HK3.out.trans f9 (fun i hi h => HSR'.out i hi h)
              have hws9 := HWS3.out.fr f9 (fun h => h HRB.out)
              obtain ⟨cx, fx⟩ := hws9.at (k := 10 + j) (by omega)
              rw [HFL.out] at cx
              have HWS9 := Lib.hid hws9
              clear h9 f9 hws9
              go_wp2_with fail
              go_roundw
              all_goals go_light
              case rel => exact ⟨i + 1, st3.set j 1, by omega, by go_num, HL3'.out, H9.out.fr ((Fr.refl (fun i => i = B) w9).setAt rfl _ _) (fun i hi => by rw [hi]; exact HRB.out), HWS9.out.set (by omega) (fun i hi => wasF_set HL3.out hj30 i hi), HC0.out, HC2'.out, K9.out.trans ((Fr.refl (fun i => i = B) w9).setAt rfl _ _) (fun i hi h => by omega)⟩
              case measure => simp [intOf]; omega
            case neg =>
              have hcz : cnt st3 0 = 0 := by omega
              have htk := mapTake HM3.out (by omega)
              rw [show takeA 10 st3 0 = (0, false, st3, 0) by rw [takeA, ffree_no (fun i hi h => by have := cnt_pos hi h; omega)]] at htk
              have HTK := Lib.hid htk
              have HCS : Hid (cnt (settleS st3) 0 = D) := by show _ = _; rw [cnt_settle, hcz, HC2.out]; omega
              clear htk hcz hc0
              go_wp2_with fail
              refine HTK.out.mono ?_
              rintro e w9 ⟨rfl, h9, f9⟩
              have H9 : Hid (MpX R' w9 b s 10 st3 0 (30 + n)) := h9
              have K9 : Hid (Keeps w w9) := HK3.out.trans f9 (fun i hi h => HSR'.out i hi h)
              clear h9 f9
              go_wp2_with fail
              refine (mapSettle H9.out (by omega)).mono ?_
              rintro e w10 ⟨rfl, h10, f10⟩
              have H10 := Lib.hid h10
              have K10 : Hid (Keeps w w10) := K9.out.trans f10 (fun i hi h => HSR'.out i hi h)
              have hfr := mapFree h10
              rw [HCS.out] at hfr
              have HFR2 := Lib.hid hfr
              clear h10 f10 hfr
              go_wp2_with fail
              refine HFR2.out.mono ?_
              rintro e w11 ⟨rfl, k11⟩
              have H11 := Lib.hid (H10.out.keeps k11)
              have K11 : Hid (Keeps w w11) := K10.out.keeps k11
              have hdr := mapDropped H11.out
              rw [settleS_cnt2] at hdr
              have HDR2 := Lib.hid hdr
              clear k11 hdr
              go_wp2_with fail
              refine HDR2.out.mono ?_
              rintro e w12 ⟨rfl, hw12⟩
              rw [hw12]
              clear hw12
              go_wp2_with fail
              refine (livesAlloc _).mono ?_
              rintro e w13 ⟨rfl, k13⟩
              have K13 := Lib.hid k13
              clear k13
              go_wp2_with fail
              go_ret
              go_light
              exact ⟨rfl, K11.out.keeps K13.out⟩
end Go.Proofs.Ytapagllebpcnhaa
