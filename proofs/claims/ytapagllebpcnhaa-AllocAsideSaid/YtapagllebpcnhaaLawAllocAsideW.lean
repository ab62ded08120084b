/- AllocAside: the walk. -/
import Derived.Test.YtapagllebpcnhaaAllocStart
namespace Go.Proofs.Ytapagllebpcnhaa
open Go.RowKit

set_option maxRecDepth 100000 in
set_option maxHeartbeats 4000000 in
theorem walkAllocAside {v : Value} {ds : List (List Int)} {m : Int} {u : Value} {ms : List Int} {w : World} (h : Recs 2 w v ds) (hz : ds.length ≤ 8796093021952) (hm : -9223372036854775808 ≤ m ∧ m ≤ 9223372036854775807) (hu : Ints .i64 w u ms) (hms : ms.length ≤ 17592186043904) :
    Calls Try.prog 3 #[v, .int .i64 m, u] w fun e w' => e = .returned (.bool true) ∧ Keeps w w' := by
  have HL := Lib.hid h
  obtain ⟨_, la, lc, rfl, _, _, _⟩ := h
  obtain ⟨n, hn⟩ : ∃ n, n = ds.length := ⟨_, rfl⟩
  rw [← hn] at hz HL ⊢
  clear hn
  have HU := Lib.hid hu
  obtain ⟨ua, uc, hue⟩ := hu.form
  obtain ⟨M, hM⟩ : ∃ M, M = ms.length := ⟨_, rfl⟩
  rw [← hM] at hue hms
  subst hue
  have hul := HU.out.len
  have HMM := Lib.hid hM
  clear hu hM hul
  go_enter Try.func3, Try.ntmps3
  go_wp2_with fail
  refine (mapNew (R := fun k => k < w.heap.size) (L := 10) (N := 30) (by omega) (fun _ h => h)).mono ?_
  rintro e w1 ⟨b, rfl, ⟨s, h1⟩, k1⟩
  have H1 := Lib.hid h1
  have K1 := Lib.hid k1
  clear h1 k1
  go_wp2_with fail
  refine (refNew (L := 10) (N := 30) (by omega)).mono ?_
  rintro e w2 ⟨rb, rl, rfl, ⟨g1, g2, g3, g4⟩, hr2, k2⟩
  obtain ⟨R, hR⟩ : ∃ R : Nat → Prop, R = fun k => k < w.heap.size ∨ (w1.heap.size ≤ k ∧ k < w2.heap.size) := ⟨_, rfl⟩
  have HB2 : Hid (Both R w2 b s rb rl 10 (List.replicate 30 0) 0 30) := by
    rw [hR]
    exact ⟨H1.out.widen k2, hr2, .inr ⟨g1, g2⟩, .inr ⟨g3, g4⟩⟩
  have K2 : Hid (Keeps w w2) := K1.out.keeps k2
  have HS0 : Hid (∀ i, i < w.heap.size → ¬ (¬ R i ∨ i = rb ∨ i = rl)) := fun i hi h => by
    have hs1 := K1.out.size
    rcases h with h | h | h
    · exact h (by rw [hR]; exact .inl hi)
    · omega
    · omega
  clear g1 g2 g3 g4 hr2 k2 hR
  go_wp2_with fail
  go_loopw [11] (fun iv wr => ∃ (k : Nat) (st : List Int) (rs : Nat), k ≤ n ∧ iv = .int .i64 k ∧ st.length = 30 ∧ Both R wr b s rb rl 10 st rs (30 + k) ∧ Keeps w wr) (fun iv _ => n - (intOf iv).toNat)
  case atStart => exact ⟨0, _, 0, by omega, rfl, by simp, HB2.out, K2.out⟩
  case round =>
    obtain ⟨k, st, rs, hk, rfl, hst, hb, hkp⟩ := hrel
    have HB := Lib.hid hb
    have HK := Lib.hid hkp
    have HST := Lib.hid hst
    clear hb hkp
    by_cases hlt : k < n
    case pos =>
      obtain ⟨lb, lo, hla, hlb, q0, q1, c0, c1, b0, b1⟩ := HL.out.row2 hlt
      subst hla
      have c0 := HK.out.cell (fun h => h) c0
      have c1 := HK.out.cell (fun h => h) c1
      clear hst
      go_wp2_with fail
      refine (doesBoth HB.out (by omega) b0 b1).mono ?_
      rintro e w5 ⟨rfl, hb5, hf5⟩
      have HB5 := Lib.hid hb5
      have HK5 : Hid (Keeps w w5) := HK.out.trans hf5 (fun i hi h => HS0.out i hi h)
      clear hb5 hf5
      go_wp2_with fail
      go_roundw
      all_goals go_light
      case rel => exact ⟨k + 1, _, _, by omega, by go_num, by rw [doesA_length]; exact HST.out, HB5.out, HK5.out⟩
      case measure => simp [intOf]; omega
    case neg =>
      have HM : Hid (MpX R wr b s 10 st rs (30 + n)) := HB.out.1.mono (by omega)
      have HSR : Hid (∀ i, i < w.heap.size → ¬ ¬ R i) := fun i hi h => HS0.out i hi (.inl h)
      have hcl : cnt st 0 ≤ 30 := by have := cnt_le st 0; omega
      go_wp2_with fail
      refine (mapRelease HM.out).mono ?_
      rintro e w3 ⟨rfl, h3, f3⟩
      have H3 := Lib.hid h3
      have K3 : Hid (Keeps w w3) := HK.out.trans f3 (fun i hi h => HSR.out i hi h)
      have hf3 := mapFree h3
      obtain ⟨c, hc⟩ : ∃ c, c = cnt st 0 := ⟨_, rfl⟩
      rw [← hc] at hf3 hcl
      have HC := Lib.hid hc
      have HF3 := Lib.hid hf3
      clear h3 f3 hf3 hc hst
      go_wp2_with fail
      refine HF3.out.mono ?_
      rintro e w4 ⟨rfl, k4⟩
      have H4 := Lib.hid (H3.out.keeps k4)
      have K4 : Hid (Keeps w w4) := K3.out.keeps k4
      clear k4
      rcases Nat.eq_zero_or_pos c with hc0 | hc0
      · have hc0 : c ≤ 0 := by omega
        go_wp2_with fail
        refine (livesAlloc _).mono ?_
        rintro e w7 ⟨rfl, k7⟩
        have K7 := Lib.hid k7
        clear k7
        go_wp2_with fail
        go_ret
        go_light
        exact ⟨rfl, K4.out.keeps K7.out⟩
      · have t1 : ((c : Int) - ((0 : Nat) : Int) == 0) = false := by simp; omega
        have hf4 := mapFree H4.out
        rw [← HC.out] at hf4
        have HF4 := Lib.hid hf4
        have hpl := pickS_lt m (n := (c : Int) + 1) (by omega)
        have HPK : Hid (∀ (w : World) (x : Int), x = (c : Int) + 1 → Calls Try.prog 14 #[.int .i64 m, .int .i64 x] w fun e w' => e = .returned (.int .i64 (pickS m ((c : Int) + 1))) ∧ w' = w) := fun w x hx => by
          rw [hx]
          exact pickOf hm (by omega) (by omega)
        obtain ⟨P, hP⟩ : ∃ P : Nat, pickS m ((c : Int) + 1) = (P : Int) := ⟨(pickS m ((c : Int) + 1)).toNat, by omega⟩
        rw [hP] at HPK hpl
        have hrv : reserveS st 0 (P : Int) = (true, P) := by rw [reserveS, if_pos (by rw [← HC.out]; omega)]; simp
        have HRV := Lib.hid hrv
        clear hf4 hP hrv
        go_wp2_with fail
        refine HF4.out.mono ?_
        rintro e w5 ⟨rfl, k5⟩
        have H5 := Lib.hid (H4.out.keeps k5)
        have K5 : Hid (Keeps w w5) := K4.out.keeps k5
        clear k5
        go_wp2_with fail
        refine (HPK.out _ _ (by omega)).mono ?_
        rintro e w6 ⟨rfl, hw6⟩
        rw [hw6]
        clear hw6
        have hrs := mapReserve (n := (P : Int)) H5.out
        rw [HRV.out] at hrs
        have HRS := Lib.hid hrs
        clear hrs
        go_wp2_with fail
        refine HRS.out.mono ?_
        rintro e w7 ⟨rfl, h7, f7⟩
        have H7 : Hid (MpX R w7 b s 10 st P (30 + n)) := h7
        have K7 : Hid (Keeps w w7) := K5.out.trans f7 (fun i hi h => HSR.out i hi h)
        clear h7 f7
        go_wp2_with fail
        go_loopw [12] (fun iv wr => ∃ (k : Nat) (st : List Int), k ≤ M ∧ iv = .int .i64 k ∧ MpX R wr b s 10 st P (30 + n) ∧ Keeps w wr) (fun iv _ => M - (intOf iv).toNat)
        case atStart => exact ⟨0, st, by omega, rfl, H7.out, K7.out⟩
        case round =>
          obtain ⟨k, st2, hk2, rfl, hm2, hkp2⟩ := hrel
          have HM2 := Lib.hid hm2
          have HK2 := Lib.hid hkp2
          clear hm2 hkp2
          by_cases hlt2 : k < M
          case pos =>
            have hub := HU.out.keeps HK2.out
            obtain ⟨hwf, ua', uc', hue, _, _, _, hcc⟩ := hub
            obtain ⟨tb, to, hua, hcell⟩ := hcc k (by rw [← HMM.out]; exact hlt2)
            obtain ⟨rfl, _⟩ : ua = ua' ∧ True := by cases hue; exact ⟨rfl, trivial⟩
            subst hua
            have hwt := ints_int hwf (show k < ms.length by rw [← HMM.out]; exact hlt2)
            generalize ms.getD k 0 = t at *
            clear hcc hwf hue
            go_wp2_with fail
            refine (mapMark HM2.out hwt).mono ?_
            rintro e w8 ⟨rfl, h8, f8⟩
            have H8 := Lib.hid h8
            have K8 : Hid (Keeps w w8) := HK2.out.trans f8 (fun i hi h => HSR.out i hi h)
            clear h8 f8
            go_wp2_with fail
            go_roundw
            all_goals go_light
            case rel => exact ⟨k + 1, _, by omega, by go_num, H8.out, K8.out⟩
            case measure => simp [intOf]; omega
          case neg =>
            go_wp2_with fail
            go_loopw [13] (fun iv wx => ∃ (i : Nat) (st : List Int), i ≤ P ∧ iv = .int .i64 i ∧ MpX R wx b s 10 st (P - i) (30 + n) ∧ Keeps w wx) (fun iv _ => P - (intOf iv).toNat)
            case atStart => exact ⟨0, st2, by omega, rfl, HM2.out, HK2.out⟩
            case round =>
              obtain ⟨i, st3, hi3, rfl, hm3, hkp3⟩ := hrel
              have HM3 := Lib.hid hm3
              have HK3 := Lib.hid hkp3
              clear hm3 hkp3
              by_cases hlt3 : i < P
              case pos =>
                have hff : ∃ j, ffree st3 = some j := by
                  obtain ⟨_, _, _, hx⟩ := HM3.out
                  have := hx.rsb
                  exact ffree_pos (by omega)
                obtain ⟨j, hj⟩ := hff
                have htk := mapTake HM3.out (by omega)
                rw [show takeA 10 st3 (P - i) = (10 + j, true, st3.set j 1, P - i - 1) by rw [takeA, hj]] at htk
                have HTK := Lib.hid htk
                clear htk hj
                go_wp2_with fail
                refine HTK.out.mono ?_
                rintro e w9 ⟨rfl, h9, f9⟩
                have H9 : Hid (MpX R w9 b s 10 (st3.set j 1) (P - i - 1) (30 + n)) := h9
                have K9 : Hid (Keeps w w9) := HK3.out.trans f9 (fun i hi h => HSR.out i hi h)
                clear h9 f9
                go_wp2_with fail
                go_roundw
                all_goals go_light
                case rel => exact ⟨i + 1, _, by omega, by go_num, by rw [show P - (i + 1) = P - i - 1 by omega]; exact H9.out, K9.out⟩
                case measure => simp [intOf]; omega
              case neg =>
                go_wp2_with fail
                refine (livesAlloc _).mono ?_
                rintro e w9 ⟨rfl, k9⟩
                have K9 := Lib.hid k9
                clear k9
                go_wp2_with fail
                go_ret
                go_light
                exact ⟨rfl, HK3.out.keeps K9.out⟩
end Go.Proofs.Ytapagllebpcnhaa
