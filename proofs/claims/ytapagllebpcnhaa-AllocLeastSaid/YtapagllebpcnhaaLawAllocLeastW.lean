/- AllocLeast: the walk. -/
import Derived.Test.YtapagllebpcnhaaMpRuns
namespace Go.Proofs.Ytapagllebpcnhaa
open Go.RowKit

theorem runsP_none {L : Nat} {st : List Int} (h : ∀ i, i < st.length → st.getD i 0 ≠ 0) : ∀ k, k ≤ st.length → runsP L st k = []
  | 0, _ => rfl
  | k + 1, hk => by rw [runsP, if_pos (h k (by omega))]; exact runsP_none h k (by omega)
theorem runsP_head {L : Nat} {st : List Int} {j : Nat} (h0 : st.getD j 0 = 0) (h : ∀ i, i < j → st.getD i 0 ≠ 0) (hj : j < st.length) : ∀ k, j < k → k ≤ st.length → ∃ n, (runsP L st k).getD 0 [] = [(L : Int) + (j : Int), n] ∧ 0 < (runsP L st k).length
  | 0, h1, _ => by omega
  | k + 1, h1, hk => by
    have e : runsP L st (k + 1) = if st.getD k 0 ≠ 0 then runsP L st k else if 0 < k ∧ st.getD (k - 1) 0 = 0 then bump (runsP L st k) else runsP L st k ++ [[((L + k : Nat) : Int), 1]] := rfl
    rw [e]
    by_cases hjk : j = k
    · subst hjk
      have hb : ∀ i, i ≤ j → runsP L st i = [] := by
        intro i
        induction i with
        | zero => intro _; rfl
        | succ i ih => intro hi; rw [runsP, if_pos (h i (by omega))]; exact ih (by omega)
      rw [if_neg (by rw [h0]; simp), if_neg (fun h3 => h (j - 1) (by omega) h3.2), hb j (Nat.le_refl _)]
      exact ⟨1, by simp [show ((L + j : Nat) : Int) = (L : Int) + (j : Int) by omega], by simp⟩
    · obtain ⟨n, h2, h3⟩ := runsP_head (L := L) h0 h hj k (by omega) (by omega)
      split
      · exact ⟨n, h2, h3⟩
      · split
        · rw [bump_length, bump_get _ _ h3, h2]
          split
          · exact ⟨n + 1, by simp, h3⟩
          · exact ⟨n, rfl, h3⟩
        · refine ⟨n, ?_, by simp⟩
          rw [List.getD_eq_getElem?_getD, List.getElem?_append_left h3, ← List.getD_eq_getElem?_getD]
          exact h2

set_option maxRecDepth 100000 in
set_option maxHeartbeats 4000000 in
theorem walkAllocLeast {v : Value} {ds : List (List Int)} {w : World} (h : Recs 2 w v ds) (hz : ds.length ≤ 8796093021952) :
    Calls Try.prog 6 #[v] w fun e w' => e = .returned (.bool true) ∧ Keeps w w' := by
  have HL := Lib.hid h
  obtain ⟨_, la, lc, rfl, _, _, _⟩ := h
  obtain ⟨n, hn⟩ : ∃ n, n = ds.length := ⟨_, rfl⟩
  rw [← hn] at hz HL ⊢
  clear hn
  go_enter Try.func6, Try.ntmps6
  go_wp2_with fail
  refine (mapNew (R := fun k => k < w.heap.size) (L := 10) (N := 30) (by omega) (fun _ h => h)).mono ?_
  rintro e w1 ⟨b, rfl, ⟨s, h1⟩, k1⟩
  have H1 := Lib.hid h1
  have K1 := Lib.hid k1
  clear h1 k1
  go_wp2_with fail
  refine (refNew (L := 10) (N := 30) (by omega)).mono ?_
  rintro e w2 ⟨rb, rl, rfl, ⟨g1, g2, g3, g4⟩, hr2, k2⟩
  obtain ⟨R, hR⟩ : ∃ R : Nat → Prop, R = fun k => k < w.heap.size ∨ (w1.heap.size ≤ k ∧ k < w2.heap.size) := ⟨_, rfl⟩
  have HB2 : Hid (Both R w2 b s rb rl 10 (List.replicate 30 0) 0 30) := by
    rw [hR]
    exact ⟨H1.out.widen k2, hr2, .inr ⟨g1, g2⟩, .inr ⟨g3, g4⟩⟩
  have K2 : Hid (Keeps w w2) := K1.out.keeps k2
  have HS0 : Hid (∀ i, i < w.heap.size → ¬ (¬ R i ∨ i = rb ∨ i = rl)) := fun i hi h => by
    have hs1 := K1.out.size
    rcases h with h | h | h
    · exact h (by rw [hR]; exact .inl hi)
    · omega
    · omega
  clear g1 g2 g3 g4 hr2 k2 hR
  go_wp2_with fail
  go_loopw [7] (fun iv wr => ∃ (k : Nat) (st : List Int) (rs : Nat), k ≤ n ∧ iv = .int .i64 k ∧ st.length = 30 ∧ Both R wr b s rb rl 10 st rs (30 + 2 * k) ∧ Keeps w wr) (fun iv _ => n - (intOf iv).toNat)
  case atStart => exact ⟨0, _, 0, by omega, rfl, by simp, HB2.out, K2.out⟩
  case round =>
    obtain ⟨k, st, rs, hk, rfl, hst, hb, hkp⟩ := hrel
    have HB := Lib.hid hb
    have HK := Lib.hid hkp
    have HST := Lib.hid hst
    clear hb hkp
    by_cases hlt : k < n
    case pos =>
      obtain ⟨lb, lo, hla, hlb, q0, q1, c0, c1, b0, b1⟩ := HL.out.row2 hlt
      subst hla
      have C1W := Lib.hid c1
      have c0 := HK.out.cell (fun h => h) c0
      have c1 := HK.out.cell (fun h => h) c1
      clear hst
      go_wp2_with fail
      refine (doesBoth HB.out (by omega) b0 b1).mono ?_
      rintro e w5 ⟨rfl, hb5, hf5⟩
      have HB5 := Lib.hid hb5
      have HK5 : Hid (Keeps w w5) := HK.out.trans hf5 (fun i hi h => HS0.out i hi h)
      clear hb5 hf5
      obtain ⟨st5, hst5⟩ : ∃ x, x = (doesA 10 st rs q0 q1).1 := ⟨_, rfl⟩
      obtain ⟨rs5, hrs5⟩ : ∃ x, x = (doesA 10 st rs q0 q1).2 := ⟨_, rfl⟩
      have HL5 : Hid (st5.length = 30) := by show _ = _; rw [hst5, doesA_length]; exact HST.out
      have HB5 : Hid (Both R w5 b s rb rl 10 st5 rs5 (30 + 2 * k + 1)) := by
        have := HB5.out
        rw [← hst5, ← hrs5] at this
        exact this
      clear hst5 hrs5
      go_wp2_with fail
      refine (mapRuns HB5.out.1).mono ?_
      rintro e w6 ⟨xv, rfl, hxo, k6⟩
      have K6 : Hid (Keeps w w6) := HK5.out.keeps k6
      obtain ⟨R', hR'⟩ : ∃ R' : Nat → Prop, R' = fun k => R k ∨ (w5.heap.size ≤ k ∧ k < w6.heap.size) := ⟨_, rfl⟩
      have HM6 : Hid (MpX R' w6 b s 10 st5 rs5 (30 + 2 * k + 1)) := by
        rw [hR']
        exact HB5.out.1.widen k6
      have HB6 := Lib.hid (HB5.out.keeps k6)
      have HRX : Hid (∀ g, w5.heap.size ≤ g → g < w6.heap.size → R' g) := fun g h1 h2 => by rw [hR']; exact .inr ⟨h1, h2⟩
      have HRR : Hid (∀ g, R g → R' g) := fun g h => by rw [hR']; exact .inl h
      have HXO := Lib.hid hxo
      have htk := mapTake HM6.out (by omega)
      have htb : ∀ (w8 : World), Fr (fun k => ¬ R k) w6 w8 → Calls Try.prog 27 #[.pointer (some ⟨rb, 0, none⟩)] w8 fun e w' => e = .returned (.tuple #[.int .i64 ((takeA 10 st5 rs5).1 : Nat), .bool (takeA 10 st5 rs5).2.1]) ∧ Rf w' rb rl 10 (takeA 10 st5 rs5).2.2.1 (takeA 10 st5 rs5).2.2.2 ∧ Fr (fun k => k = rb ∨ k = rl) w8 w' := fun w8 f => refTake (HB6.out.ref f)
      have htl := takeA_length 10 st5 rs5
      clear hxo k6 hR'
      cases hff : ffree st5 with
      | none =>
        have hno := ffree_none hff
        rw [show takeA 10 st5 rs5 = (0, false, st5, rs5) by rw [takeA, hff]] at htk htb
        have HTK := Lib.hid htk
        have HTB := Lib.hid htb
        have hx0 := HXO.out
        rw [runsP_none hno _ (Nat.le_refl _)] at hx0
        obtain ⟨xa, xc, hxe⟩ := hx0.form
        subst hxe
        clear htk htb htl hff hno hx0
        go_wp2_with fail
        refine HTK.out.mono ?_
        rintro e w7 ⟨rfl, h7, f7⟩
        have F7 : Hid (Fr (fun k => ¬ R k) w6 w7) := f7.mono fun i _ hi hR => hi (HRR.out i hR)
        have H7 : Hid (MpX R w7 b s 10 st5 rs5 (30 + 2 * k + 1)) := (show MpX R' w7 b s 10 st5 rs5 (30 + 2 * k + 1) from h7).narrow HRR.out
        clear h7 f7
        go_wp2_with fail
        refine (HTB.out _ F7.out).mono ?_
        rintro e w8 ⟨rfl, h8, f8⟩
        have hts := two_steps HB6.out F7.out H7.out f8 h8
        have HTS := Lib.hid hts
        clear h8 f8 hts
        go_wp2_with fail
        go_roundw
        all_goals go_light
        case rel => exact ⟨k + 1, st5, rs5, by omega, by go_num, HL5.out, ⟨HTS.out.1.1.mono (by omega), HTS.out.1.2⟩, K6.out.trans HTS.out.2 (fun i hi h => HS0.out i hi h)⟩
        case measure => simp [intOf]; omega
      | some j =>
        obtain ⟨hj1, hj2, hj3⟩ := ffree_some hff
        rw [show takeA 10 st5 rs5 = (10 + j, true, st5.set j 1, rs5 - 1) by rw [takeA, hff]] at htk htb
        have HTK := Lib.hid htk
        have HTB := Lib.hid htb
        obtain ⟨rn, hrow, hrl⟩ := runsP_head (L := 10) hj2 hj3 hj1 st5.length hj1 (Nat.le_refl _)
        have hrl2 := runsP_length 10 st5 st5.length
        obtain ⟨M, hM⟩ : ∃ M, M = (runsP 10 st5 st5.length).length := ⟨_, rfl⟩
        obtain ⟨g, c, hxe, _, _, hg1, hg2⟩ := HXO.out.formNe hrl
        obtain ⟨c0, _⟩ := (show OwnR 2 _ _ _ (.slice (some ⟨g, 0, none⟩) _ c) _ from hxe ▸ HXO.out).at (i := 0) (j := 0) hrl (by decide)
        rw [hrow] at c0
        have C0 : Hid (w6.cell? ⟨g, 0, none⟩ = some (.int .i64 ((10 : Int) + (j : Int)))) := c0
        rw [← hM] at hxe hrl hrl2
        subst hxe
        have HLJ : Hid ((st5.set j 1).length = 30) := by show _ = _; rw [List.length_set]; exact HL5.out
        have hj30 : j < 30 := by have := HL5.out; omega
        have HJG : Hid ((st5.set j 1).getD j 0 = 1) := by show _ = _; rw [set_get _ _ _ _ hj1, if_pos rfl]
        have HRG := Lib.hid (HRX.out g hg1 hg2)
        have HPK : Hid (∀ (w : World), Calls Try.prog 14 #[.int .i64 q1, .int .i64 3] w fun e w' => e = .returned (.int .i64 (pickS q1 3)) ∧ w' = w) := fun w => pickOf b1 (by omega) (by omega)
        have hpl := pickS_lt q1 (n := 3) (by omega)
        have hM30 : M ≤ 30 := by have := HL5.out; omega
        obtain ⟨p, hp⟩ : ∃ p, p = pickS q1 3 := ⟨_, rfl⟩
        rw [← hp] at HPK hpl
        have hg0 : ((M : Int) > 0) := by omega
        clear htk htb htl hff hj1 hj2 hj3 hrow hrl2 hM c0 hg1 hp HXO HRX
        go_wp2_with fail
        refine HTK.out.mono ?_
        rintro e w7 ⟨rfl, h7, f7⟩
        have F7 : Hid (Fr (fun k => ¬ R k) w6 w7) := f7.mono fun i _ hi hR => hi (HRR.out i hR)
        have H7 : Hid (MpX R w7 b s 10 (st5.set j 1) (rs5 - 1) (30 + 2 * k + 1)) := (show MpX R' w7 b s 10 (st5.set j 1) (rs5 - 1) (30 + 2 * k + 1) from h7).narrow HRR.out
        have cg := f7.cell (p := ⟨g, 0, none⟩) (fun h => h HRG.out) C0.out
        clear h7 f7
        go_wp2_with fail
        refine (HTB.out _ F7.out).mono ?_
        rintro e w8 ⟨rfl, h8, f8⟩
        have hts := two_steps HB6.out F7.out H7.out f8 h8
        have HTS := Lib.hid hts
        have HK8 : Hid (Keeps w w8) := K6.out.trans hts.2 (fun i hi h => HS0.out i hi h)
        have c1 := HK8.out.cell (fun h => h) C1W.out
        clear h8 f8 hts
        by_cases hp0 : 0 < p
        case pos =>
          have HN : Hid (∀ n : Int, n = (10 : Int) + (j : Int) → -9223372036854775808 ≤ n ∧ n ≤ 9223372036854775807) := fun n h => by omega
          go_wp2_with fail
          refine (HPK.out _).mono ?_
          rintro e w9 ⟨rfl, hw9⟩
          rw [hw9]
          clear hw9
          go_wp2_with fail
          refine (mapBack HTS.out.1.1 (by omega) (HN.out _ rfl)).mono ?_
          rintro e w10 ⟨rfl, h10, f10⟩
          have H10 := Lib.hid h10
          have F10 := Lib.hid f10
          clear h10 f10
          go_wp2_with fail
          refine (refBack (HTS.out.1.ref F10.out) (HN.out _ rfl)).mono ?_
          rintro e w11 ⟨rfl, h11, f11⟩
          have hts2 := two_steps HTS.out.1 F10.out H10.out f11 h11
          have HTS2 := Lib.hid hts2
          clear h11 f11 hts2
          go_wp2_with fail
          go_roundw
          all_goals go_light
          case rel => exact ⟨k + 1, _, _, by omega, by go_num, by rw [freeS_length]; exact HLJ.out, ⟨HTS2.out.1.1.mono (by omega), HTS2.out.1.2⟩, HK8.out.trans HTS2.out.2 (fun i hi h => HS0.out i hi h)⟩
          case measure => simp [intOf]; omega
        case neg =>
          have hp1 : decide ((0 : Int) < p) = false := decide_eq_false hp0
          go_wp2_with fail
          refine (HPK.out _).mono ?_
          rintro e w9 ⟨rfl, hw9⟩
          rw [hw9]
          clear hw9
          go_wp2_with fail
          go_roundw
          all_goals go_light
          case rel => exact ⟨k + 1, _, _, by omega, by go_num, HLJ.out, ⟨HTS.out.1.1.mono (by omega), HTS.out.1.2⟩, HK8.out⟩
          case measure => simp [intOf]; omega
    case neg =>
      have HM : Hid (MpX R wr b s 10 st rs (30 + 2 * k)) := HB.out.1
      have HSR : Hid (∀ i, i < w.heap.size → ¬ ¬ R i) := fun i hi h => HS0.out i hi (.inl h)
      have hcl : cnt st 0 ≤ 30 := by have := cnt_le st 0; omega
      go_wp2_with fail
      refine (livesAlloc _).mono ?_
      rintro e w9 ⟨rfl, k9⟩
      have K9 := Lib.hid k9
      clear k9
      go_wp2_with fail
      go_ret
      go_light
      exact ⟨rfl, HK.out.keeps K9.out⟩
end Go.Proofs.Ytapagllebpcnhaa
