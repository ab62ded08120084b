/- The reference's Run. -/
import Derived.Test.YtkckabfbngkkpaaMatchRun
namespace Go.Proofs.Ytkckabfbngkkpaa
open Go.RowKit

set_option maxRecDepth 100000 in
set_option maxHeartbeats 4000000 in
theorem refRun {w : World} {v u : Value} {zs : List Int} {qs : List (List Int)} {most : Int} (h : Ints .u8 w v zs) (hz : zs.length ≤ 140737488351232) (hq : Recs 3 w u qs) (hqn : qs.length ≤ 5864062014634) (hm0 : 0 ≤ most) (hm1 : most ≤ 65536) :
    Calls Try.prog 14 #[v, u, .int .i64 most] w fun e w' => ∃ v', e = .returned (.tuple #[v', .int .i64 (runS most qs zs []).2]) ∧ Own .u8 5 w.heap.size w' v' (runS most qs zs []).1 ∧ Keeps w w' := by
  have HQ := Lib.hid hq
  obtain ⟨_, ua, uc, rfl, _, _, _⟩ := hq
  obtain ⟨n, hn⟩ : ∃ n, n = qs.length := ⟨_, rfl⟩
  rw [← hn] at hqn HQ ⊢
  have HN := Lib.hid hn
  obtain ⟨va, vc, hv⟩ := h.form
  obtain ⟨Z, hZ⟩ : ∃ Z, Z = zs.length := ⟨_, rfl⟩
  rw [← hZ] at hv hz
  subst hv
  have hZc := h.len.2
  have HI := Lib.hid h
  have HZ := Lib.hid hZ
  obtain ⟨R, hR⟩ : ∃ R, R = runS most qs zs [] := ⟨_, rfl⟩
  rw [← hR]
  have HR := Lib.hid hR
  clear hn hR hZ h
  go_enter Try.func14, Try.ntmps14
  go_wp2_with fail
  go_loopw [8, 9, 10] (fun ov av i wr => ∃ (k : Nat) (out : List Int) (at_ : Nat), k ≤ n ∧ i = .int .i64 k ∧ av = .int .i64 at_ ∧ at_ ≤ Z ∧ Own .u8 5 w.heap.size wr ov out ∧ (out.length : Int) ≤ most ∧ R = runS most (qs.drop k) (zs.drop at_) out ∧ Keeps w wr) (fun _ _ i _ => n - (intOf i).toNat)
  case atStart => exact ⟨0, [], 0, by omega, rfl, rfl, by omega, Own.nil _ _ _ _, by simpa using hm0, HR.out, Fr.refl _ _⟩
  case round =>
    obtain ⟨k, out, at_, hk, rfl, rfl, hat, hown, hom, hres, hkeep⟩ := hrel
    obtain ⟨oa, oc, hov⟩ := hown.form
    obtain ⟨L, hL⟩ : ∃ L, L = out.length := ⟨_, rfl⟩
    obtain ⟨M, hM⟩ : ∃ M, M = (zs.drop at_).length := ⟨_, rfl⟩
    have hz1 : Z ≤ at_ + M := by rw [hM, List.length_drop, ← HZ.out]; omega
    have hz2 : at_ + M ≤ Z := by rw [hM, List.length_drop, ← HZ.out]; omega
    have hint := HI.out.drop hat
    rw [← hL] at hov hom
    subst hov
    have HM := Lib.hid hM
    have HLL := Lib.hid hL
    by_cases hlt : k < n
    case neg =>
      have hkn : k = n := by omega
      subst hkn
      have hr := hres.trans (runS_end HN.out _ _)
      rw [← hM, ← hL] at hr
      have HRS := Lib.hid hr
      have HKP := Lib.hid hkeep
      have HOWN := Lib.hid hown
      have HINT := Lib.hid hint
      clear hr hres hkeep hown hint hM hL
      -- [[
      by_cases hbig : most - (L : Int) < (M : Int)
      · go_wp2_with fail
        go_ret2
        go_light
        exact ⟨.slice none 0 0, by rw [HRS.out, if_pos hbig]; rfl, by rw [HRS.out, if_pos hbig]; exact Own.nil _ _ _ _, HKP.out⟩
      · have hor : vc ≤ at_ ∨ at_ < vc := by omega
        rcases hor with hvc | hvc
        all_goals
         have hd := HINT.out
         first | rw [if_pos (show vc = at_ by omega), show vc - at_ = 0 from by omega] at hd | rw [if_neg (by omega)] at hd
         have HD2 := Lib.hid hd
         clear hd
         go_wp2_with (at_builtin; go_loud (refine wpList_ints rfl (.tmp 124) (.tmp 127) rfl elemB (.slice oa L oc) rfl rfl HOWN.out (HD2.out.keeps HKP.out) (by rw [← HM.out, ← HLL.out]; omega) HKP.out.size ?_); intro v5 w5 hown5 hfr5 hat5; have H5 := Lib.hid hown5; have F5 := Lib.hid hfr5; clear hown5 hfr5 hat5)
         go_ret2
         go_light
         exact ⟨v5, by rw [HRS.out, if_neg (show ¬ most - (L : Int) < (M : Int) by omega)]; rfl, by rw [HRS.out, if_neg (show ¬ most - (L : Int) < (M : Int) by omega)]; exact H5.out, HKP.out.trans F5.out (fun i hi h => by have := (HOWN.out.lt i h).1; omega)⟩
      -- ]]
    obtain ⟨hnq, lb, lo, hla, hlb, q0, q1, q2, hqe, c0, c1, c2, b0, b1, b2⟩ := HQ.out.row3 hlt
    subst hla
    have c0 := hkeep.cell (fun h => h) c0
    have c1 := hkeep.cell (fun h => h) c1
    have c2 := hkeep.cell (fun h => h) c2
    by_cases hdat : RunData (qs.getD k []) (zs.drop at_).length (out.length + (qs.getD k []).getD 0 0)
    · have hr := hres.trans (runS_data (by omega) hdat)
      rw [hqe, ← hM, ← hL] at hdat
      simp only [RunData, List.getD_cons_zero, List.getD_cons_succ] at hdat
      have hb2 : q0 < 0 ∨ (0 ≤ q0 ∧ (M : Int) < q0) ∨ (0 ≤ q0 ∧ q0 ≤ M ∧ q1 < 0) ∨ (0 ≤ q0 ∧ q0 ≤ M ∧ 0 < q1 ∧ q2 < 1) ∨ (0 ≤ q0 ∧ q0 ≤ M ∧ 0 < q1 ∧ 1 ≤ q2 ∧ L + q0 < q2) ∨ (0 ≤ q0 ∧ q0 ≤ M ∧ q1 = 0 ∧ q2 < 0) ∨ (0 ≤ q0 ∧ q0 ≤ M ∧ q1 = 0 ∧ 0 < q2) := by omega
      have HRS := Lib.hid hr
      have HKP := Lib.hid hkeep
      clear hr hres hkeep hown hint hdat hqe hnq hM hL
      -- [[
      rcases hb2 with hb | ⟨g0, hb⟩ | ⟨g0, g1, hb⟩ | ⟨g0, g1, g2, hb⟩ | ⟨g0, g1, g2, g3, hb⟩ | ⟨g0, g1, rfl, hb⟩ | ⟨g0, g1, rfl, hb⟩
      all_goals
        go_wp2_with fail
        go_ret2
        go_light
        exact ⟨.slice none 0 0, by rw [HRS.out]; rfl, by rw [HRS.out]; exact Own.nil _ _ _ _, Fr.alloc HKP.out _⟩
      -- ]]
    by_cases hbig : RunBig (qs.getD k []) (out.length + (qs.getD k []).getD 0 0) most
    · have hr := hres.trans (runS_big (by omega) hdat hbig)
      rw [hqe, ← hM, ← hL] at hdat
      rw [hqe, ← hL] at hbig
      simp only [RunData, RunBig, List.getD_cons_zero, List.getD_cons_succ] at hdat hbig
      have hb2 : (0 ≤ q0 ∧ q0 ≤ M ∧ q1 = 0 ∧ q2 = 0 ∧ most < L + q0) ∨ (0 ≤ q0 ∧ q0 ≤ M ∧ 0 < q1 ∧ 1 ≤ q2 ∧ q2 ≤ L + q0 ∧ most < L + q0) ∨ (0 ≤ q0 ∧ q0 ≤ M ∧ 0 < q1 ∧ 1 ≤ q2 ∧ q2 ≤ L + q0 ∧ L + q0 ≤ most ∧ most - (L + q0) < q1) := by omega
      have HRS := Lib.hid hr
      have HKP := Lib.hid hkeep
      clear hr hres hkeep hown hint hdat hbig hqe hnq hM hL
      -- [[
      rcases hb2 with ⟨g0, g1, rfl, rfl, hb⟩ | ⟨g0, g1, g2, g3, g4, hb⟩ | ⟨g0, g1, g2, g3, g4, g5, hb⟩
      all_goals
        go_wp2_with fail
        go_ret2
        go_light
        exact ⟨.slice none 0 0, by rw [HRS.out]; rfl, by rw [HRS.out]; exact Own.nil _ _ _ _, Fr.alloc HKP.out _⟩
      -- ]]
    have hr := hres.trans (runS_ok (by omega) hdat hbig)
    rw [hqe, ← hM, ← hL] at hdat
    rw [hqe, ← hL] at hbig
    rw [hqe] at hr
    simp only [RunData, RunBig, List.getD_cons_zero, List.getD_cons_succ] at hdat hbig hr
    obtain ⟨m0, rfl⟩ := Int.eq_ofNat_of_zero_le (show 0 ≤ q0 by omega)
    obtain ⟨m1, rfl⟩ := Int.eq_ofNat_of_zero_le (show 0 ≤ q1 by omega)
    obtain ⟨m2, rfl⟩ := Int.eq_ofNat_of_zero_le (show 0 ≤ q2 by omega)
    rw [Int.toNat_natCast, Int.toNat_natCast, Int.toNat_natCast, List.drop_drop] at hr
    have hb2 : (m0 ≤ M ∧ m1 ≤ 0 ∧ m2 ≤ 0 ∧ L + m0 ≤ most) ∨ (m0 ≤ M ∧ 0 < m1 ∧ 1 ≤ m2 ∧ m2 ≤ L + m0 ∧ (L : Int) + m0 ≤ most ∧ (m1 : Int) ≤ most - (L + m0)) := by omega
    have hmM : m0 ≤ M := by omega
    have HRS := Lib.hid hr
    have HKP := Lib.hid hkeep
    have HOWN := Lib.hid hown
    have HT : Hid (Ints .u8 w (.slice (if vc = at_ then va else va.map (·.add at_)) (at_ + m0 - at_) (vc - at_)) ((zs.drop at_).take m0)) := by
      show Ints _ _ _ _
      rw [Nat.add_sub_cancel_left]
      exact hint.take (by omega)
    clear hr hres hkeep hown hint hdat hbig hqe hnq hM hL
    rcases hb2 with ⟨g0, g1, g2, g3⟩ | ⟨g0, g1, g2, g3, g4, g5⟩
    all_goals
     have hor : vc ≤ at_ ∨ at_ < vc := by omega
     rcases hor with hrc | hrc
     all_goals
      have hd := HT.out
      first | rw [if_pos (show vc = at_ by omega), show vc - at_ = 0 from by omega] at hd | rw [if_neg (by omega)] at hd
      have HD2 := Lib.hid hd
      clear hd
      go_wp2_with (at_builtin; go_loud (refine wpList_ints rfl (.tmp 85) (.tmp 92) rfl elemB (.slice oa L oc) rfl rfl (HOWN.out.keeps ((Fr.refl _ _).alloc _)) (HD2.out.keeps (Fr.alloc HKP.out _)) (by rw [List.length_take, ← HM.out, ← HLL.out]; omega) (by have := HKP.out.size; simp; omega) ?_); intro v5 w5 hown5 hfr5 hat5; have hh5 := hfr5.heap (fun h => by have := (HOWN.out.lt _ h).2; omega) (heap_alloc_new wr _); have e0 := cell_of_row _ _ 0 _ _ _ hh5; have e1 := cell_of_row _ _ 1 _ _ _ hh5; have e2 := cell_of_row _ _ 2 _ _ _ hh5; simp at e0 e1 e2; have H5 := Lib.hid hown5; have F5 := Lib.hid hfr5; have A5 := Lib.hid (ne_new hat5 (fun b h => (HOWN.out.lt b h).2) (by simp)); clear hown5 hfr5 hat5 hh5)
      have E2 := Lib.hid e2
      have E1 : Hid (w5.cell? ⟨wr.heap.size, 1, none⟩ = some (.int .i64 m1)) := by first | exact e1 | (rw [show m1 = 0 by omega]; exact e1)
      have K5 : Hid (Keeps w w5) := (Fr.alloc HKP.out _).trans F5.out (fun i hi h => by have := (HOWN.out.lt i h).1; omega)
      go_loopw [8, 13] (fun ov i wx => ∃ (j : Nat) (o : List Int), j ≤ m1 ∧ i = .int .i64 j ∧ Own .u8 5 w.heap.size wx ov o ∧ o = copyS (out ++ (zs.drop at_).take m0) m2 j ∧ Keeps w wx ∧ wx.cell? ⟨wr.heap.size, 2, none⟩ = some (.int .i64 m2) ∧ wx.cell? ⟨wr.heap.size, 1, none⟩ = some (.int .i64 m1) ∧ (∀ b, ov.ownBlock = some b → b ≠ wr.heap.size)) (fun _ i _ => m1 - (intOf i).toNat)
      case atStart => exact ⟨0, _, by omega, rfl, H5.out, rfl, K5.out, E2.out, E1.out, A5.out⟩
      case round =>
        obtain ⟨j, o, hj, rfl, ho, hoe, hkx, ex2, ex1, hbx⟩ := hrel
        have hol : o.length = L + m0 + j := by rw [hoe, copyS_length, List.length_append, List.length_take, ← HM.out, ← HLL.out]; omega
        by_cases hjl : j < m1
        case pos =>
          first
          | (exfalso; omega)
          | (obtain ⟨gm, cm, hvm, hcm, hcm2, hgm, hgm2⟩ := ho.formNe (by omega)
             subst hvm
             obtain ⟨hcell, hfz⟩ := ho.at (i := L + m0 + j - m2) (by omega)
             have hby := ints_byte ho.1 (show L + m0 + j - m2 < o.length by omega)
             have hstep : copyS (out ++ (zs.drop at_).take m0) m2 (j + 1) = o ++ [o.getD (L + m0 + j - m2) 0] := by rw [← hol, hoe]; rfl
             obtain ⟨y, hy⟩ : ∃ y, y = o.getD (L + m0 + j - m2) 0 := ⟨_, rfl⟩
             rw [hol] at hcm ho ⊢
             rw [← hy] at hcell hby hstep
             have HO := Lib.hid ho
             have HKX := Lib.hid hkx
             have HBX := Lib.hid hbx
             have HST := Lib.hid hstep
             have HOL := Lib.hid hol
             clear ho hkx hbx hstep hol hoe hy
             have hbl := World.block_lt_of_cell? _ _ ex2
             have HBL := Lib.hid hbl
             clear hbl
             go_wp2_with (at_builtin; go_loud (refine wpList_int rfl (.tmp 104) (.tmp 113) rfl elemB _ rfl rfl HO.out (WalkArith.wf_u8 (by omega)) (by rw [HOL.out]; omega) HKX.out.size ?_); intro v6 w6 hown6 hfr6 hat6; have C6 := Lib.hid (hfr6.cell (fun h => HBX.out _ h rfl) ex2); have C61 := Lib.hid (hfr6.cell (fun h => HBX.out _ h rfl) ex1); have A6 := Lib.hid (ne_new2 hat6 HBX.out (Nat.lt_succ_of_lt HBL.out)); have H6 := Lib.hid hown6; have F6 := Lib.hid hfr6; clear hown6 hfr6 hat6)
             go_roundw
             all_goals go_light
             case rel =>
               exact ⟨j + 1, _, by omega, by go_num, H6.out, HST.out.symm, HKX.out.trans F6.out (fun i hi h => by have := (HO.out.lt i h).1; omega), C6.out, C61.out, A6.out⟩
             case measure => simp [intOf]; omega)
        case neg =>
          have HO := Lib.hid ho
          have HOE := Lib.hid hoe
          have HKX := Lib.hid hkx
          have HOL := Lib.hid hol
          clear ho hoe hkx hol hbx
          have hje : m1 ≤ j := by omega
          clear ex2 e0 e1 e2 c0 c1 c2 b0 b1 b2 hjl
          go_wp2_with fail
          go_roundw
          all_goals go_light
          case rel =>
            refine ⟨k + 1, o, at_ + m0, by omega, by go_num, by go_num, by omega, HO.out, ?_, ?_, HKX.out⟩
            · rw [HOL.out]; omega
            · rw [HRS.out, HOE.out, show j = m1 by omega]
          case measure => simp [intOf]; omega
end Go.Proofs.Ytkckabfbngkkpaa
