/- The program's Run. -/
import Derived.Test.YtkckabfbngkkpaaRunS
namespace Go.Proofs.Ytkckabfbngkkpaa
open Go.RowKit

theorem ne_new {v v' : Value} {B s : Nat} (h : v'.ownBlock = v.ownBlock ∨ v'.ownBlock = some s) (h1 : ∀ b, v.ownBlock = some b → b < B) (h2 : B < s) : ∀ b, v'.ownBlock = some b → b ≠ B := by
  intro b hb
  rcases h with h | h
  · rw [h] at hb
    have := h1 b hb
    omega
  · rw [h] at hb
    cases hb
    omega

theorem ne_new2 {v v' : Value} {B s : Nat} (h : v'.ownBlock = v.ownBlock ∨ v'.ownBlock = some s) (h1 : ∀ b, v.ownBlock = some b → b ≠ B) (h2 : B < s) : ∀ b, v'.ownBlock = some b → b ≠ B := by
  intro b hb
  rcases h with h | h
  · rw [h] at hb
    exact h1 b hb
  · rw [h] at hb
    cases hb
    omega

set_option maxRecDepth 100000 in
set_option maxHeartbeats 4000000 in
theorem matchRun {w : World} {v u : Value} {zs : List Int} {qs : List (List Int)} {most : Int} (h : Ints .u8 w v zs) (hz : zs.length ≤ 140737488351232) (hq : Recs 3 w u qs) (hqn : qs.length ≤ 5864062014634) (hm0 : 0 ≤ most) (hm1 : most ≤ 65536) :
    Calls Try.prog 13 #[v, u, .int .i64 most] w fun e w' => ∃ v', e = .returned (.tuple #[v', .int .i64 (runS most qs zs []).2]) ∧ Own .u8 5 w.heap.size w' v' (runS most qs zs []).1 ∧ Keeps w w' := by
  have HQ := Lib.hid hq
  obtain ⟨_, ua, uc, rfl, _, _, _⟩ := hq
  obtain ⟨n, hn⟩ : ∃ n, n = qs.length := ⟨_, rfl⟩
  rw [← hn] at hqn HQ ⊢
  have HN := Lib.hid hn
  have HI := Lib.hid h
  obtain ⟨R, hR⟩ : ∃ R, R = runS most qs zs [] := ⟨_, rfl⟩
  rw [← hR]
  have HR := Lib.hid hR
  clear hn hR h
  go_enter Try.func13, Try.ntmps13
  go_wp2_with fail
  go_loopw [8, 9, 22] (fun ov rv i wr => ∃ (k : Nat) (out rest : List Int), k ≤ n ∧ i = .int .i64 k ∧ Own .u8 5 w.heap.size wr ov out ∧ Ints .u8 w rv rest ∧ rest.length ≤ 140737488351232 ∧ (out.length : Int) ≤ most ∧ R = runS most (qs.drop k) rest out ∧ Keeps w wr) (fun _ _ i _ => n - (intOf i).toNat)
  case atStart => exact ⟨0, [], zs, by omega, rfl, Own.nil _ _ _ _, HI.out, hz, by simpa using hm0, HR.out, Fr.refl _ _⟩
  case round =>
    obtain ⟨k, out, rest, hk, rfl, hown, hint, hrz, hom, hres, hkeep⟩ := hrel
    obtain ⟨ra, rc, hrv⟩ := hint.form
    obtain ⟨oa, oc, hov⟩ := hown.form
    obtain ⟨M, hM⟩ : ∃ M, M = rest.length := ⟨_, rfl⟩
    obtain ⟨L, hL⟩ : ∃ L, L = out.length := ⟨_, rfl⟩
    rw [← hM] at hrv hrz
    rw [← hL] at hov hom
    have hMc := hint.len'
    subst hrv
    subst hov
    have hMr := hint.len.2
    have HM := Lib.hid hM
    have HLL := Lib.hid hL
    by_cases hlt : k < n
    case neg =>
      have hkn : k = n := by omega
      subst hkn
      have hr := hres.trans (runS_end HN.out _ _)
      rw [← hM, ← hL] at hr
      have HRS := Lib.hid hr
      have HKP := Lib.hid hkeep
      have HOWN := Lib.hid hown
      have HINT := Lib.hid hint
      clear hr hres hkeep hown hint hM hL
      -- [[
      by_cases hbig : most - (L : Int) < (M : Int)
      · go_wp2_with fail
        go_ret2
        go_light
        exact ⟨.slice none 0 0, by rw [HRS.out, if_pos hbig]; rfl, by rw [HRS.out, if_pos hbig]; exact Own.nil _ _ _ _, HKP.out⟩
      · go_wp2_with (at_builtin; go_loud (refine wpList_ints rfl (.tmp 118) (.tmp 119) rfl elemB (.slice oa L oc) rfl rfl HOWN.out (HINT.out.keeps HKP.out) (by rw [← HM.out, ← HLL.out]; omega) HKP.out.size ?_); intro v5 w5 hown5 hfr5 hat5; have H5 := Lib.hid hown5; have F5 := Lib.hid hfr5; clear hown5 hfr5 hat5)
        go_ret2
        go_light
        exact ⟨v5, by rw [HRS.out, if_neg (show ¬ most - (L : Int) < (M : Int) by omega)]; rfl, by rw [HRS.out, if_neg (show ¬ most - (L : Int) < (M : Int) by omega)]; exact H5.out, HKP.out.trans F5.out (fun i hi h => by have := (HOWN.out.lt i h).1; omega)⟩
      -- ]]
    obtain ⟨hnq, lb, lo, hla, hlb, q0, q1, q2, hqe, c0, c1, c2, b0, b1, b2⟩ := HQ.out.row3 hlt
    subst hla
    have c0 := hkeep.cell (fun h => h) c0
    have c1 := hkeep.cell (fun h => h) c1
    have c2 := hkeep.cell (fun h => h) c2
    by_cases hdat : RunData (qs.getD k []) rest.length (out.length + (qs.getD k []).getD 0 0)
    · have hr := hres.trans (runS_data (by omega) hdat)
      rw [hqe, ← hM, ← hL] at hdat
      simp only [RunData, List.getD_cons_zero, List.getD_cons_succ] at hdat
      have hb2 : q0 < 0 ∨ (0 ≤ q0 ∧ (M : Int) < q0) ∨ (0 ≤ q0 ∧ q0 ≤ M ∧ q1 < 0) ∨ (0 ≤ q0 ∧ q0 ≤ M ∧ 0 < q1 ∧ q2 < 1) ∨ (0 ≤ q0 ∧ q0 ≤ M ∧ 0 < q1 ∧ 1 ≤ q2 ∧ L + q0 < q2) ∨ (0 ≤ q0 ∧ q0 ≤ M ∧ q1 = 0 ∧ q2 < 0) ∨ (0 ≤ q0 ∧ q0 ≤ M ∧ q1 = 0 ∧ 0 < q2) := by omega
      have HRS := Lib.hid hr
      have HKP := Lib.hid hkeep
      clear hr hres hkeep hown hint hdat hqe hnq hM hL
      -- [[
      rcases hb2 with hb | ⟨g0, hb⟩ | ⟨g0, g1, hb⟩ | ⟨g0, g1, g2, hb⟩ | ⟨g0, g1, g2, g3, hb⟩ | ⟨g0, g1, rfl, hb⟩ | ⟨g0, g1, rfl, hb⟩
      all_goals
        go_wp2_with fail
        go_ret2
        go_light
        exact ⟨.slice none 0 0, by rw [HRS.out]; rfl, by rw [HRS.out]; exact Own.nil _ _ _ _, Fr.alloc HKP.out _⟩
      -- ]]
    by_cases hbig : RunBig (qs.getD k []) (out.length + (qs.getD k []).getD 0 0) most
    · have hr := hres.trans (runS_big (by omega) hdat hbig)
      rw [hqe, ← hM, ← hL] at hdat
      rw [hqe, ← hL] at hbig
      simp only [RunData, RunBig, List.getD_cons_zero, List.getD_cons_succ] at hdat hbig
      have hb2 : (0 ≤ q0 ∧ q0 ≤ M ∧ q1 = 0 ∧ q2 = 0 ∧ most < L + q0) ∨ (0 ≤ q0 ∧ q0 ≤ M ∧ 0 < q1 ∧ 1 ≤ q2 ∧ q2 ≤ L + q0 ∧ most < L + q0) ∨ (0 ≤ q0 ∧ q0 ≤ M ∧ 0 < q1 ∧ 1 ≤ q2 ∧ q2 ≤ L + q0 ∧ L + q0 ≤ most ∧ most - (L + q0) < q1) := by omega
      have HRS := Lib.hid hr
      have HKP := Lib.hid hkeep
      clear hr hres hkeep hown hint hdat hbig hqe hnq hM hL
      -- [[
      rcases hb2 with ⟨g0, g1, rfl, rfl, hb⟩ | ⟨g0, g1, g2, g3, g4, hb⟩ | ⟨g0, g1, g2, g3, g4, g5, hb⟩
      all_goals
        go_wp2_with fail
        go_ret2
        go_light
        exact ⟨.slice none 0 0, by rw [HRS.out]; rfl, by rw [HRS.out]; exact Own.nil _ _ _ _, Fr.alloc HKP.out _⟩
      -- ]]
    have hr := hres.trans (runS_ok (by omega) hdat hbig)
    rw [hqe, ← hM, ← hL] at hdat
    rw [hqe, ← hL] at hbig
    rw [hqe] at hr
    simp only [RunData, RunBig, List.getD_cons_zero, List.getD_cons_succ] at hdat hbig hr
    obtain ⟨m0, rfl⟩ := Int.eq_ofNat_of_zero_le (show 0 ≤ q0 by omega)
    obtain ⟨m1, rfl⟩ := Int.eq_ofNat_of_zero_le (show 0 ≤ q1 by omega)
    obtain ⟨m2, rfl⟩ := Int.eq_ofNat_of_zero_le (show 0 ≤ q2 by omega)
    rw [Int.toNat_natCast, Int.toNat_natCast, Int.toNat_natCast] at hr
    have hb2 : (m0 ≤ M ∧ m1 ≤ 0 ∧ m2 ≤ 0 ∧ L + m0 ≤ most) ∨ (m0 ≤ M ∧ 0 < m1 ∧ 1 ≤ m2 ∧ m2 ≤ L + m0 ∧ (L : Int) + m0 ≤ most ∧ (m1 : Int) ≤ most - (L + m0)) := by omega
    have hmM : m0 ≤ M := by omega
    have HRS := Lib.hid hr
    have HKP := Lib.hid hkeep
    have HOWN := Lib.hid hown
    have HT := Lib.hid (hint.take hmM)
    have HD := Lib.hid (hint.drop hmM)
    clear hr hres hkeep hown hint hdat hbig hqe hnq hM hL
    rcases hb2 with ⟨g0, g1, g2, g3⟩ | ⟨g0, g1, g2, g3, g4, g5⟩
    all_goals
     have hor : rc ≤ m0 ∨ m0 < rc := by omega
     rcases hor with hrc | hrc
     all_goals
      have hd := HD.out
      first | rw [if_pos (show rc = m0 by omega), show rc - m0 = 0 from by omega] at hd | rw [if_neg (by omega)] at hd
      have HD2 := Lib.hid hd
      clear hd
      go_wp2_with (at_builtin; go_loud (refine wpList_ints rfl (.tmp 84) (.tmp 88) rfl elemB (.slice oa L oc) rfl rfl (HOWN.out.keeps ((Fr.refl _ _).alloc _)) (HT.out.keeps (Fr.alloc HKP.out _)) (by rw [List.length_take, ← HM.out, ← HLL.out]; omega) (by have := HKP.out.size; simp; omega) ?_); intro v5 w5 hown5 hfr5 hat5; have hh5 := hfr5.heap (fun h => by have := (HOWN.out.lt _ h).2; omega) (heap_alloc_new wr _); have e0 := cell_of_row _ _ 0 _ _ _ hh5; have e1 := cell_of_row _ _ 1 _ _ _ hh5; have e2 := cell_of_row _ _ 2 _ _ _ hh5; simp at e0 e1 e2; have H5 := Lib.hid hown5; have F5 := Lib.hid hfr5; have A5 := Lib.hid (ne_new hat5 (fun b h => (HOWN.out.lt b h).2) (by simp)); clear hown5 hfr5 hat5 hh5)
      have E2 := Lib.hid e2
      have K5 : Hid (Keeps w w5) := (Fr.alloc HKP.out _).trans F5.out (fun i hi h => by have := (HOWN.out.lt i h).1; omega)
      go_loopw [8, 96] (fun ov i wx => ∃ (j : Nat) (o : List Int), j ≤ m1 ∧ i = .int .i64 j ∧ Own .u8 5 w.heap.size wx ov o ∧ o = copyS (out ++ rest.take m0) m2 j ∧ Keeps w wx ∧ wx.cell? ⟨wr.heap.size, 2, none⟩ = some (.int .i64 m2) ∧ (∀ b, ov.ownBlock = some b → b ≠ wr.heap.size)) (fun _ i _ => m1 - (intOf i).toNat)
      case atStart => exact ⟨0, _, by omega, rfl, H5.out, rfl, K5.out, E2.out, A5.out⟩
      case round =>
        obtain ⟨j, o, hj, rfl, ho, hoe, hkx, ex2, hbx⟩ := hrel
        have hol : o.length = L + m0 + j := by rw [hoe, copyS_length, List.length_append, List.length_take, ← HM.out, ← HLL.out]; omega
        by_cases hjl : j < m1
        case pos =>
          first
          | (exfalso; omega)
          | (obtain ⟨gm, cm, hvm, hcm, hcm2, hgm, hgm2⟩ := ho.formNe (by omega)
             subst hvm
             obtain ⟨hcell, hfz⟩ := ho.at (i := L + m0 + j - m2) (by omega)
             have hby := ints_byte ho.1 (show L + m0 + j - m2 < o.length by omega)
             have hstep : copyS (out ++ rest.take m0) m2 (j + 1) = o ++ [o.getD (L + m0 + j - m2) 0] := by rw [← hol, hoe]; rfl
             obtain ⟨y, hy⟩ : ∃ y, y = o.getD (L + m0 + j - m2) 0 := ⟨_, rfl⟩
             rw [hol] at hcm ho ⊢
             rw [← hy] at hcell hby hstep
             have HO := Lib.hid ho
             have HKX := Lib.hid hkx
             have HBX := Lib.hid hbx
             have HST := Lib.hid hstep
             have HOL := Lib.hid hol
             clear ho hkx hbx hstep hol hoe hy
             have hbl := World.block_lt_of_cell? _ _ ex2
             have HBL := Lib.hid hbl
             clear hbl
             go_wp2_with (at_builtin; go_loud (refine wpList_int rfl (.tmp 98) (.tmp 107) rfl elemB _ rfl rfl HO.out (WalkArith.wf_u8 (by omega)) (by rw [HOL.out]; omega) HKX.out.size ?_); intro v6 w6 hown6 hfr6 hat6; have C6 := Lib.hid (hfr6.cell (fun h => HBX.out _ h rfl) ex2); have A6 := Lib.hid (ne_new2 hat6 HBX.out (Nat.lt_succ_of_lt HBL.out)); have H6 := Lib.hid hown6; have F6 := Lib.hid hfr6; clear hown6 hfr6 hat6)
             go_roundw
             all_goals go_light
             case rel =>
               exact ⟨j + 1, _, by omega, by go_num, H6.out, HST.out.symm, HKX.out.trans F6.out (fun i hi h => by have := (HO.out.lt i h).1; omega), C6.out, A6.out⟩
             case measure => simp [intOf]; omega)
        case neg =>
          have HO := Lib.hid ho
          have HOE := Lib.hid hoe
          have HKX := Lib.hid hkx
          have HOL := Lib.hid hol
          clear ho hoe hkx hol hbx
          have hje : m1 ≤ j := by omega
          clear ex2 e0 e1 e2 c0 c1 c2 b0 b1 b2 hjl
          go_wp2_with fail
          go_roundw
          all_goals go_light
          case rel =>
            refine ⟨k + 1, o, rest.drop m0, by omega, by go_num, HO.out, HD2.out, ?_, ?_, ?_, HKX.out⟩
            · rw [List.length_drop, ← HM.out]; omega
            · rw [HOL.out]; omega
            · rw [HRS.out, HOE.out, show j = m1 by omega]
          case measure => simp [intOf]; omega
end Go.Proofs.Ytkckabfbngkkpaa
