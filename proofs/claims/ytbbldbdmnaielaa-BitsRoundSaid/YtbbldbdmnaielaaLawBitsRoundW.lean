/- 'BitsRound' returns true: the walk. -/
import Derived.Test.YtbbldbdmnaielaaLives
import Derived.Test.YtbbldbdmnaielaaOwnRecs
import Derived.Test.YtbbldbdmnaielaaRoundS
import Derived.Test.YtbbldbdmnaielaaWriterPut
import Derived.Test.YtbbldbdmnaielaaWriterLen
import Derived.Test.YtbbldbdmnaielaaMarked
import Derived.Test.YtbbldbdmnaielaaTakeRd
import Derived.Test.YtbbldbdmnaielaaTakeBk
namespace Go.Proofs.Ytbbldbdmnaielaa
open Go.RowKit

theorem elemP : Elem Try.prog 28 35 (.agg #[.int .i64 0, .int .i64 0]) 2 16 := Elem.mk' Try.underlying28 (by kernel_rfl) rfl (by decide) (by decide)

def RoundRel (w : World) (b : Nat) (ov : Value) (k : Nat) (wr : World) : Prop :=
  ∃ ps g, OwnR 2 35 w.heap.size wr ov ps ∧ GoodP ps ∧ Wr wr b g (rowP ps) ∧ ps.length ≤ k ∧ (rowP ps).length ≤ 32 * k ∧ Keeps w wr ∧ (∀ j, g = some j → w.heap.size ≤ j) ∧ (∀ j, ov.ownBlock = some j → j ≠ b ∧ g ≠ some j)

theorem pair_eq {r : List Int} (h : r.length = 2) : r = [r.getD 0 0, r.getD 1 0] := by
  match r, h with
  | [a, b], _ => rfl

set_option maxRecDepth 100000 in
set_option maxHeartbeats 4000000 in
theorem walkBitsRound {v : Value} {ps : List (List Int)} {w : World} (h : Recs 2 w v ps) (hz : ps.length ≤ 8796093021952) :
    Calls Try.prog 10 #[v] w fun e w' => e = .returned (.bool true) ∧ Keeps w w' := by
  have HL := Lib.hid h
  obtain ⟨_, la, lc, rfl, _, _, _⟩ := h
  obtain ⟨n, hn⟩ : ∃ n, n = ps.length := ⟨_, rfl⟩
  rw [← hn] at hz HL ⊢
  have HN := Lib.hid hn
  clear hn
  go_enter Try.func10, Try.ntmps10
  go_wp2_with fail
  refine (newWriter _).mono ?_
  rintro e w1 ⟨rfl, hw1, k1⟩
  have HW1 := Lib.hid hw1
  have HK1 := Lib.hid k1
  obtain ⟨b, hb⟩ : ∃ b, b = w.heap.size := ⟨_, rfl⟩
  rw [← hb] at HW1 ⊢
  have HB := Lib.hid hb
  clear hw1 k1 hb
  go_wp2_with fail
  go_loopw [4, 5] (fun ov i wr => ∃ k : Nat, k ≤ n ∧ i = .int .i64 k ∧ RoundRel w b ov k wr) (fun _ i _ => n - (intOf i).toNat)
  case atStart => exact ⟨0, by omega, rfl, [], none, OwnR.nil _ _ _ _, (by intro r hr; simp at hr), HW1.out, by simp, by simp [rowP], HK1.out, (by intro j hj; cases hj), (by intro j hj; simp [Value.ownBlock] at hj)⟩
  case round =>
    obtain ⟨k, hk, rfl, os, g, hown, hgood, hwr, hol, hbl, hkeep, hgb, hap⟩ := hrel
    by_cases hlt : k < n
    case neg =>
      have hkn : k = n := by omega
      subst hkn
      obtain ⟨oa, oc, hov⟩ := hown.form
      obtain ⟨M, hM⟩ : ∃ M, M = os.length := ⟨_, rfl⟩
      rw [← hM] at hov hol
      subst hov
      have HM := Lib.hid hM
      have HOWN := Lib.hid hown
      have HGOOD := Lib.hid hgood
      have HWR := Lib.hid hwr
      have HKP := Lib.hid hkeep
      have HBL := Lib.hid hbl
      have hbin := rowP_bin os
      obtain ⟨bs, hbs⟩ : ∃ bs, bs = rowP os := ⟨_, rfl⟩
      rw [← hbs] at HWR HBL hbin
      have HBS := Lib.hid hbs
      have HBIN := Lib.hid hbin
      obtain ⟨L, hL⟩ : ∃ L, L = bs.length := ⟨_, rfl⟩
      have HLL := Lib.hid hL
      have hLb : L ≤ 281474976702464 := by rw [hL]; have := HBL.out; omega
      clear hown hgood hwr hkeep hbl hap hgb hM hbs hbin hL
      go_wp2_with fail
      refine (writerBytes HWR.out (by rw [← HLL.out]; omega)).mono ?_
      rintro e w2 ⟨v2, rfl, hown2, k2⟩
      have H2 := Lib.hid hown2
      have K2 := Lib.hid k2
      clear hown2 k2
      go_wp2_with fail
      refine (newReader H2.out.ints (by rw [pack_length, ← HLL.out]; omega)).mono ?_
      rintro e w3 ⟨rb, rg, rfl, hrb, hrg, hrd, k3⟩
      have HRD := Lib.hid (RdRow.ofRd hrd)
      have K3 := Lib.hid (K2.out.keeps k3)
      have HRB : Hid (wr.heap.size ≤ rb ∧ (∀ k, rg = some k → wr.heap.size ≤ k)) := by
        have h1 := K2.out.size
        exact ⟨by omega, fun k hk => by have := hrg k hk; omega⟩
      clear hrb hrg hrd k3
      go_wp2_with fail
      refine (writerMarked (HWR.out.keeps K3.out) (by rw [← HLL.out]; omega)).mono ?_
      rintro e w4 ⟨v4, rfl, hown4, k4⟩
      have H4 := Lib.hid hown4
      have K4 := Lib.hid (K3.out.keeps k4)
      have HRD4 := Lib.hid (HRD.out.keeps k4)
      have HMP := Lib.hid (mark_pack HBIN.out)
      clear hown4 k4
      go_wp2_with fail
      refine (newBack H4.out.ints (by rw [pack_length, List.length_append, ← HLL.out]; simp; omega) HMP.out.1 HMP.out.2.1).mono ?_
      rintro e w5 ⟨bb, bg, rfl, hbb, hbg, hbk, k5⟩
      have HBK : Hid (BkRow w5 bb bg bs) := ⟨_, _, HMP.out.2.2.symm, hbk⟩
      have K5 := Lib.hid (K4.out.keeps k5)
      have HRD5 := Lib.hid (HRD4.out.keeps k5)
      have HNE : Hid (rb ≠ bb ∧ (∀ k, rg = some k → k ≠ bb) ∧ (∀ k, bg = some k → k ≠ rb) ∧ wr.heap.size ≤ bb) := by
        have h1 := HRD4.out.lt
        have h2 := K4.out.size
        exact ⟨by omega, fun k hk => by have := h1.2 k hk; omega, fun k hk => by have := hbg k hk; omega, by omega⟩
      have hne : ((bs.length : Int) != (bs.length : Int)) = false := by simp
      have hoR := HOWN.out.keeps K5.out
      have HOR := Lib.hid hoR
      have HROW : Hid (RdRow w5 rb rg (rowP (os.drop 0) ++ List.replicate (8 * ((L + 7) / 8) - L) 0) ∧ BkRow w5 bb bg (rowP (os.take os.length))) := by
        refine ⟨?_, ?_⟩
        · have := HRD5.out
          rw [rowOf_pack HBIN.out, ← HLL.out] at this
          rw [List.drop_zero, ← HBS.out]
          exact this
        · rw [List.take_length, ← HBS.out]
          exact HBK.out
      clear hbb hbg hbk k5 hoR
      go_wp2_with (first
        | (go_at_call 33; refine (bkLeft HBK.out).mono ?_; rintro e w6 ⟨rfl, rfl⟩)
        | (go_at_call 17; refine (writerLen (HWR.out.keeps (K5.out.keeps (by repeat (first | exact Fr.refl _ _ | apply Fr.drew | apply Fr.drewN)))) (by rw [← HLL.out]; omega)).mono ?_; rintro e w7 ⟨rfl, k7⟩; have K7 := Lib.hid k7; clear k7))
      have HOS : Hid ((∀ j, (Value.slice oa M oc).ownBlock = some j → j ≠ rb ∧ j ≠ bb ∧ w.heap.size ≤ j) ∧ w.heap.size ≤ rb ∧ w.heap.size ≤ bb) := by
        have h1 := HRB.out.1
        have h2 := HNE.out.2.2.2
        have h3 := HKP.out.size
        refine ⟨fun j hj => ?_, by omega, by omega⟩
        have := HOWN.out.lt j hj
        omega
      have HO7 := Lib.hid (HOR.out.keeps K7.out)
      have HB7 := Lib.hid (HROW.out.2.keeps K7.out)
      have HR7 := Lib.hid (HROW.out.1.keeps K7.out)
      have HKW : Hid (Keeps w w7) := HKP.out.keeps (K5.out.keeps K7.out)
      obtain ⟨pad, hpad⟩ : ∃ pad, pad = List.replicate (8 * ((L + 7) / 8) - L) (0 : Int) := ⟨_, rfl⟩
      have hpl : pad.length < 8 := by rw [hpad, List.length_replicate]; omega
      rw [← hpad] at HR7
      have HPL := Lib.hid hpl
      clear hpad hpl
      go_loopw [9] (fun i wy => ∃ j : Nat, j ≤ M ∧ i = .int .i64 j ∧ RdRow wy rb rg (rowP (os.drop j) ++ pad) ∧ Fr (fun q => q = rb) w7 wy) (fun i _ => M - (intOf i).toNat)
      case atStart => exact ⟨0, by omega, rfl, HR7.out, Fr.refl _ _⟩
      case round =>
        obtain ⟨j, hj, rfl, hrd, hfr⟩ := hrel
        by_cases hlt2 : j < M
        case neg =>
          have hjM : j = M := by omega
          subst hjM
          rw [show rowP (os.drop j) ++ pad = pad from by rw [HM.out, List.drop_length]; rfl] at hrd
          have HRE := Lib.hid hrd
          have HBE := Lib.hid (HB7.out.fr hfr (fun h => HNE.out.1 h.symm) (fun k hk h => HNE.out.2.2.1 k hk h))
          have HOE := Lib.hid (HO7.out.fr hfr (fun k hk h => (HOS.out.1 k hk).1 h))
          have HKE : Hid (Keeps w _) := HKW.out.trans hfr (fun i hi h => by have := HOS.out.2.1; omega)
          clear hrd hfr
          have hm1 : (j : Int) - 1 ≤ 9223372036854775807 := by omega
          go_wp2_with fail
          go_loopw [12] (fun i wz => ∃ q : Nat, q ≤ j ∧ i = .int .i64 ((q : Int) - 1) ∧ BkRow wz bb bg (rowP (os.take q)) ∧ Fr (fun x => x = bb) wr wz) (fun i _ => (intOf i + 1).toNat)
          case atStart => exact ⟨j, by omega, rfl, (by rw [HM.out]; exact HBE.out), Fr.refl _ _⟩
          case round =>
            obtain ⟨q, hq, rfl, hbk, hfr⟩ := hrel
            rcases Nat.eq_zero_or_pos q with hq0 | hq0
            · subst hq0
              rw [List.take_zero] at hbk
              have HBF := Lib.hid hbk
              have HRF := Lib.hid (HRE.out.fr hfr (fun h => HNE.out.1 h) (fun k hk h => HNE.out.2.1 k hk h))
              have HKF := Lib.hid (HKE.out.trans hfr (fun i hi h => by have := HOS.out.2.2; omega))
              have hpl := HPL.out
              obtain ⟨P, hP⟩ : ∃ P, P = pad.length := ⟨_, rfl⟩
              rw [← hP] at hpl
              have HPP := Lib.hid hP
              clear hbk hfr hP
              go_wp2_with (first
                | (go_at_call 33; refine (bkLeft HBF.out).mono ?_; rintro e w10 ⟨rfl, rfl⟩)
                | (go_at_call 28; refine (rdLeft HRF.out).mono ?_; rintro e w11 ⟨rfl, d11, rfl⟩; rw [← HPP.out])
                | (go_at_call 13; refine (livesBits _).mono ?_; rintro e w12 ⟨rfl, k12⟩; have K12 := Lib.hid k12; clear k12))
              go_ret
              go_light
              exact ⟨rfl, Fr.keeps (Fr.drewN HKF.out _) K12.out⟩
            obtain ⟨q, rfl⟩ : ∃ q', q = q' + 1 := ⟨q - 1, by omega⟩
            rw [show ((q + 1 : Nat) : Int) - 1 = (q : Int) from by omega]
            have hO := HOE.out.fr hfr (fun k hk h => (HOS.out.1 k hk).2.1 h)
            obtain ⟨_, a', c', hv, _, _, hc⟩ := hO.recs
            have hjl : q < os.length := by have := HM.out; omega
            obtain ⟨ob, oo, rfl, hcell⟩ := hc q hjl
            obtain ⟨rfl, _⟩ : oa = some ⟨ob, oo, none⟩ ∧ True := by cases hv; exact ⟨rfl, trivial⟩
            have hob : ¬ ob = bb := (HOS.out.1 ob rfl).2.1
            have hn0 := hcell 0 (by omega)
            have hx0 := hcell 1 (by omega)
            have hput := good_at HGOOD.out hjl
            have hrow := rowP_take hjl
            obtain ⟨pn, hpn⟩ : ∃ pn, pn = (os.getD q []).getD 0 0 := ⟨_, rfl⟩
            obtain ⟨px, hpx⟩ : ∃ px, px = (os.getD q []).getD 1 0 := ⟨_, rfl⟩
            rw [← hpn] at hn0 hput hrow
            rw [← hpx] at hx0 hput hrow
            rw [hrow] at hbk
            rw [Nat.add_zero] at hn0
            have hne1 : (px != px) = false := by simp
            have HBK8 := Lib.hid hbk
            have HFR := Lib.hid hfr
            have HPUT := Lib.hid hput
            clear hbk hfr hput hpn hpx hrow hc hcell hv hO
            go_wp2_with fail
            refine (bkTake (n := pn) HBK8.out).mono ?_
            rintro e w8 ⟨rfl, hr8, hf8⟩
            have hx8 := hf8.cell (p := ⟨ob, oo + q * 2 + 1, none⟩) hob hx0
            rw [backS_bits _ HPUT.out] at hr8 ⊢
            have HR8 := Lib.hid hr8
            have HF8 := Lib.hid hf8
            clear hr8 hf8 hn0 hx0
            go_wp2_with fail
            go_roundw
            all_goals go_light
            case rel => exact ⟨q, by omega, rfl, HR8.out, HFR.out.trans HF8.out (fun _ _ h => h)⟩
            case measure => simp [intOf]
        have hO := HO7.out.fr hfr (fun k hk h => (HOS.out.1 k hk).1 h)
        obtain ⟨_, a', c', hv, _, _, hc⟩ := hO.recs
        have hjl : j < os.length := by rw [← HM.out]; exact hlt2
        obtain ⟨ob, oo, rfl, hcell⟩ := hc j hjl
        obtain ⟨rfl, _⟩ : oa = some ⟨ob, oo, none⟩ ∧ True := by cases hv; exact ⟨rfl, trivial⟩
        have hob : ¬ ob = rb := (HOS.out.1 ob rfl).1
        have hn0 := hcell 0 (by omega)
        have hx0 := hcell 1 (by omega)
        have hput := good_at HGOOD.out hjl
        have hrow := rowP_drop hjl
        obtain ⟨pn, hpn⟩ : ∃ pn, pn = (os.getD j []).getD 0 0 := ⟨_, rfl⟩
        obtain ⟨px, hpx⟩ : ∃ px, px = (os.getD j []).getD 1 0 := ⟨_, rfl⟩
        rw [← hpn] at hn0 hput hrow
        rw [← hpx] at hx0 hput hrow
        rw [hrow, List.append_assoc] at hrd
        rw [Nat.add_zero] at hn0
        have hne1 : (px != px) = false := by simp
        have HRD8 := Lib.hid hrd
        have HFR := Lib.hid hfr
        have HPUT := Lib.hid hput
        clear hrd hfr hput hpn hpx hrow hc hcell hv hO
        go_wp2_with fail
        refine (rdTake (n := pn) HRD8.out).mono ?_
        rintro e w8 ⟨rfl, hr8, hf8⟩
        have hx8 := hf8.cell (p := ⟨ob, oo + j * 2 + 1, none⟩) hob hx0
        rw [takeS_bits _ HPUT.out] at hr8 ⊢
        have HR8 := Lib.hid hr8
        have HF8 := Lib.hid hf8
        clear hr8 hf8 hn0 hx0
        go_wp2_with fail
        go_roundw
        all_goals go_light
        case rel => exact ⟨j + 1, by omega, by go_num, HR8.out, HFR.out.trans HF8.out (fun _ _ h => h)⟩
        case measure => simp [intOf]; omega
    have hl2 := HL.out.keeps hkeep
    have hlw := HL.out
    obtain ⟨_, la', lc', hle, _, _, hc⟩ := hl2
    obtain ⟨_, la2, lc2, hle2, _, _, hc2⟩ := hlw
    have hkl : k < ps.length := by have := HN.out; omega
    obtain ⟨lb, lo, rfl, hcell⟩ := hc k hkl
    obtain ⟨lb2, lo2, rfl, hcell2⟩ := hc2 k hkl
    obtain ⟨rfl, _⟩ : la = some ⟨lb, lo, none⟩ ∧ True := by cases hle; exact ⟨rfl, trivial⟩
    obtain ⟨rfl, rfl⟩ : lb = lb2 ∧ lo = lo2 := by cases hle2; exact ⟨rfl, rfl⟩
    have hlb : lb < w.heap.size := World.block_lt_of_cell? w _ (hcell2 0 (by omega))
    have hn0 := hcell 0 (by omega)
    have hx0 := hcell 1 (by omega)
    have hnw := HL.out.wf hkl (j := 0) (by omega)
    have hxw := HL.out.wf hkl (j := 1) (by omega)
    have hmem : ps.getD k [] ∈ ps := by rw [List.getD_eq_getElem?_getD, List.getElem?_eq_getElem hkl]; exact List.getElem_mem _
    have hrw := HL.out.1 _ hmem
    obtain ⟨r, hr⟩ : ∃ r, r = ps.getD k [] := ⟨_, rfl⟩
    rw [← hr] at hn0 hx0 hnw hxw hrw
    obtain ⟨pn, hpn⟩ : ∃ pn, pn = r.getD 0 0 := ⟨_, rfl⟩
    obtain ⟨px, hpx⟩ : ∃ px, px = r.getD 1 0 := ⟨_, rfl⟩
    have hre : r = [pn, px] := by rw [hpn, hpx]; exact pair_eq hrw.1
    rw [← hpn] at hn0 hnw
    rw [← hpx] at hx0 hxw
    rw [Nat.add_zero] at hn0
    have HOWN := Lib.hid hown
    have HGOOD := Lib.hid hgood
    have HWR := Lib.hid hwr
    have HKP := Lib.hid hkeep
    have HAP := Lib.hid hap
    have HGB := Lib.hid hgb
    have HBL := Lib.hid hbl
    have HRE := Lib.hid hre
    have HRW := Lib.hid hrw
    have HOL := Lib.hid hol
    have HDIS : Hid (¬ (lb = b ∨ g = some lb)) := fun h => by
      rcases h with h | h
      · have := HB.out; omega
      · have h1 := hgb _ h; omega
    obtain ⟨oa, oc, hov⟩ := hown.form
    obtain ⟨L, hL⟩ : ∃ L, L = os.length := ⟨_, rfl⟩
    rw [← hL] at hov
    subst hov
    have hLk : L ≤ k := by omega
    have HLL := Lib.hid hL
    clear hcell hcell2 hc hc2 hle hle2 hown hgood hwr hkeep hap hgb hbl hpn hpx hlb hre hrw hol hmem hr hL
    go_wp2_with fail
    go_region_held3 (fun w' => w'.cell? ⟨lb, lo + k * 2, none⟩ = some (.int .i64 pn) ∧ w'.cell? ⟨lb, lo + k * 2 + 1, none⟩ = some (.int .i64 px)) (first | exact ⟨e0, e1⟩ | go_keep) (first | (go_at_call 16; refine (writerPutAny (HWR.out.keeps (by repeat (first | exact Fr.refl _ _ | apply Fr.drew | apply Fr.drewN))) (by have := HBL.out; omega) hnw.2 hxw.2).mono ?_; rintro e w3 ⟨g3, rfl, hw3, hf3, hg3⟩; have e0 := hf3.cell HDIS.out hn0; have e1 := hf3.cell HDIS.out hx0))
    have hf3' : Fr (fun k => k = b ∨ g = some k) wr w3 := (Fr.refl _ wr).drew.trans hf3 (fun _ _ h => h)
    have hgb3 : ∀ j, g3 = some j → w.heap.size ≤ j := fun j hj => by
      rcases hg3 with h3 | ⟨q, h3, h4⟩
      · exact HGB.out j (by rw [← h3]; exact hj)
      · rw [h3] at hj; cases hj
        have h5 : wr.heap.size ≤ j := h4
        have h6 := HKP.out.size
        omega
    have hkp3 : Keeps w w3 := HKP.out.trans hf3' (fun i hi h => by
      rcases h with h | h
      · have := HB.out; omega
      · have := HGB.out i h; omega)
    have hap3 : ∀ j, (Value.slice oa L oc).ownBlock = some j → j ≠ b ∧ g3 ≠ some j := fun j hj => by
      have h2 := HAP.out j hj
      refine ⟨h2.1, fun h => ?_⟩
      rcases hg3 with h3 | ⟨q, h3, h4⟩
      · exact h2.2 (by rw [← h3]; exact h)
      · rw [h3] at h; cases h
        have h5 : wr.heap.size ≤ j := h4
        have h6 := (HOWN.out.lt j hj).2
        omega
    have ho3 := HOWN.out.fr hf3' (fun j hj h => by
      have h2 := HAP.out j hj
      rcases h with h | h
      · exact h2.1 h
      · exact h2.2 h)
    have HW3 := Lib.hid hw3
    have HGB3 := Lib.hid hgb3
    have HKP3 := Lib.hid hkp3
    have HAP3 := Lib.hid hap3
    have HO3 := Lib.hid ho3
    have HLT3 : Hid (b < w3.heap.size ∧ ∀ j, g3 = some j → j < w3.heap.size) := hw3.lt
    clear hw3 hgb3 hkp3 hap3 ho3 hf3' hf3 hg3
    by_cases hbad : PutBad pn px
    · have hw4 := HW3.out
      rw [putRow_no hbad] at hw4 ⊢
      have HW4 := Lib.hid hw4
      clear hw4 hbad
      go_wp2_with fail
      go_roundw
      all_goals go_light
      case rel => exact ⟨k + 1, by omega, by go_num, os, g3, HO3.out, HGOOD.out, HW4.out, by rw [← HLL.out]; omega, by have := HBL.out; omega, HKP3.out, HGB3.out, HAP3.out⟩
      case measure => simp [intOf]; omega
    · have hw4 := HW3.out
      rw [putRow_ok hbad] at hw4 ⊢
      have HW4 := Lib.hid hw4
      have HBAD := Lib.hid hbad
      have e2 := e0
      have e3 := e1
      clear hw4 hbad
      go_wp2_with (at_builtin; go_loud (refine wpList_rec (r := [pn, px]) rfl (.tmp 37) (.tmp 42) rfl elemP (.slice oa L oc) rfl rfl HO3.out rfl (by rw [← HRE.out]; exact HRW.out.2) rfl (by rw [← HLL.out]; omega) HKP3.out.size ?_); intro v5 w5 hown5 hfr5 hat5; have H5 := Lib.hid hown5; have F5 := Lib.hid hfr5; have A5 := Lib.hid hat5; clear hown5 hfr5 hat5)
      go_roundw
      all_goals go_light
      case rel =>
        have hrp : rowP (os ++ [[pn, px]]) = rowP os ++ bitsOf pn.toNat px := by rw [rowP_append]; simp [rowP]
        refine ⟨k + 1, by omega, by go_num, os ++ [[pn, px]], g3, H5.out, HGOOD.out.snoc HBAD.out, ?_, by rw [List.length_append, ← HLL.out]; simp; omega, ?_, ?_, HGB3.out, ?_⟩
        · rw [hrp]
          exact HW4.out.fr F5.out (fun h => (HAP3.out _ h).1 rfl) (fun j hj h => (HAP3.out j h).2 hj)
        · have h1 := HBL.out
          have h2 := not_putBad HBAD.out
          rw [hrp, List.length_append, bitsOf_length]
          omega
        · exact HKP3.out.trans F5.out (fun i hi h => by have := (HO3.out.lt i h).1; omega)
        · intro j hj
          rcases A5.out with h1 | h1
          · exact HAP3.out j (by rw [← h1]; exact hj)
          · have h2 := h1 j hj
            have h3 := HLT3.out
            refine ⟨by omega, fun h => ?_⟩
            have := h3.2 j h
            omega
      case measure => simp [intOf]; omega
end Go.Proofs.Ytbbldbdmnaielaa
