/- The reference's Literals. -/
import Derived.Test.YtkckabfbngkkpaaLitS
namespace Go.Proofs.Ytkckabfbngkkpaa
open Go.RowKit

set_option maxHeartbeats 2000000 in
theorem refLiterals {w : World} {v u : Value} {zs : List Int} {qs : List (List Int)} (h : Ints .u8 w v zs) (hz : zs.length ≤ 140737488351232) (hq : Recs 3 w u qs) (hqn : qs.length ≤ 5864062014634) :
    Calls Try.prog 18 #[v, u] w fun e w' => ∃ v', e = .returned (.tuple #[v', .int .i64 (litS qs zs []).2]) ∧ Own .u8 5 w.heap.size w' v' (litS qs zs []).1 ∧ Keeps w w' := by
  have HQ := Lib.hid hq
  obtain ⟨_, ua, uc, rfl, _, _, _⟩ := hq
  obtain ⟨n, hn⟩ : ∃ n, n = qs.length := ⟨_, rfl⟩
  rw [← hn] at hqn HQ ⊢
  have HN := Lib.hid hn
  obtain ⟨va, vc, hv⟩ := h.form
  obtain ⟨Z, hZ⟩ : ∃ Z, Z = zs.length := ⟨_, rfl⟩
  rw [← hZ] at hv hz
  subst hv
  have hZc := h.len.2
  have HI := Lib.hid h
  have HZ := Lib.hid hZ
  obtain ⟨R, hR⟩ : ∃ R, R = litS qs zs [] := ⟨_, rfl⟩
  rw [← hR]
  have HR := Lib.hid hR
  clear hn hR hZ h
  go_enter Try.func18, Try.ntmps18
  go_wp2_with fail
  go_loopw [6, 7, 8] (fun ov av i wr => ∃ (k : Nat) (out : List Int) (at_ : Nat), k ≤ n ∧ i = .int .i64 k ∧ av = .int .i64 at_ ∧ at_ ≤ Z ∧ Own .u8 5 w.heap.size wr ov out ∧ out.length ≤ at_ ∧ R = litS (qs.drop k) (zs.drop at_) out ∧ Keeps w wr) (fun _ _ i _ => n - (intOf i).toNat)
  case atStart => exact ⟨0, [], 0, by omega, rfl, rfl, by omega, Own.nil _ _ _ _, by simp, HR.out, Fr.refl _ _⟩
  case round =>
    obtain ⟨k, out, at_, hk, rfl, rfl, hat, hown, hlen, hres, hkeep⟩ := hrel
    obtain ⟨oa, oc, hov⟩ := hown.form
    have hrl : (zs.drop at_).length = Z - at_ := by rw [List.length_drop, ← HZ.out]
    have hd := HI.out.drop hat
    by_cases hlt : k < n
    case neg =>
      have hkn : k = n := by omega
      subst hkn
      have hr := hres.trans (litS_end HN.out _ _)
      have HRS := Lib.hid hr
      have HKP := Lib.hid hkeep
      have HOWN := Lib.hid hown
      have HD := Lib.hid hd
      have HRL := Lib.hid hrl
      clear hr hres hkeep hown hd hrl
      subst hov
      have hor : vc = at_ ∨ at_ < vc := by omega
      rcases hor with rfl | hrc
      all_goals
       have hd := HD.out
       first | (rw [if_pos (Eq.refl _), show Z - vc = 0 from by omega, Nat.sub_self] at hd) | rw [if_neg (by omega)] at hd
       have HD2 := Lib.hid hd
       clear hd
       go_wp2_with (at_builtin; go_loud (refine wpList_ints rfl (.tmp 70) (.tmp 73) rfl elemB (.slice oa out.length oc) rfl rfl HOWN.out (HD2.out.keeps HKP.out) (by rw [HRL.out]; omega) HKP.out.size ?_); intro v5 w5 hown5 hfr5 hat5; have H5 := Lib.hid hown5; have F5 := Lib.hid hfr5; clear hown5 hfr5 hat5)
       go_ret2
       go_light
       exact ⟨v5, by rw [HRS.out]; rfl, by rw [HRS.out]; exact H5.out, HKP.out.trans F5.out (fun i hi h => by have := (HOWN.out.lt i h).1; omega)⟩
    obtain ⟨hnq, lb, lo, hla, hlb, q0, q1, q2, hqe, c0, c1, c2, b0, b1, b2⟩ := HQ.out.row3 hlt
    subst hla
    have c0 := hkeep.cell (fun h => h) c0
    have c1 := hkeep.cell (fun h => h) c1
    have c2 := hkeep.cell (fun h => h) c2
    by_cases hbad : LitBad (qs.getD k []) (zs.drop at_).length
    · have hr := hres.trans (litS_bad (by omega) hbad)
      rw [hqe, hrl] at hbad
      have hb2 : q0 < 0 ∨ (0 ≤ q0 ∧ q1 < 0) ∨ (0 ≤ q0 ∧ 0 ≤ q1 ∧ q2 < 0) ∨ (0 ≤ q0 ∧ 0 ≤ q1 ∧ 0 ≤ q2 ∧ (Z : Int) - at_ < q0) ∨ (0 ≤ q0 ∧ 0 ≤ q1 ∧ 0 ≤ q2 ∧ q0 ≤ (Z : Int) - at_ ∧ (Z : Int) - at_ - q0 < q1) := by
        simp only [LitBad, List.getD_cons_zero, List.getD_cons_succ] at hbad
        omega
      have HRS := Lib.hid hr
      have HKP := Lib.hid hkeep
      clear hr hres hkeep hown hov hbad hqe hnq hrl hd
      rcases hb2 with hb | ⟨g0, hb⟩ | ⟨g0, g1, hb⟩ | ⟨g0, g1, g2, hb⟩ | ⟨g0, g1, g2, g3, hb⟩
      all_goals
        go_wp2_with fail
        go_ret2
        go_light
        exact ⟨.slice none 0 0, by rw [HRS.out]; rfl, by rw [HRS.out]; exact Own.nil _ _ _ _, Fr.alloc HKP.out _⟩
    · have hr := hres.trans (litS_ok (by omega) hbad)
      rw [hqe, hrl] at hbad
      rw [hqe] at hr
      simp only [LitBad, List.getD_cons_zero, List.getD_cons_succ] at hbad hr
      obtain ⟨m0, rfl⟩ := Int.eq_ofNat_of_zero_le (show 0 ≤ q0 by omega)
      obtain ⟨m1, rfl⟩ := Int.eq_ofNat_of_zero_le (show 0 ≤ q1 by omega)
      have g2 : 0 ≤ q2 := by omega
      have g3 : m0 ≤ Z - at_ := by omega
      have g4 : at_ + m0 + m1 ≤ Z := by omega
      have g5 : (m0 : Int) ≤ (Z : Int) - (at_ : Int) := by omega
      have g6 : (m1 : Int) ≤ (Z : Int) - (at_ : Int) - (m0 : Int) := by omega
      rw [show ((m0 : Int) + (m1 : Int)).toNat = m0 + m1 from by omega, Int.toNat_natCast, List.drop_drop] at hr
      have HRS := Lib.hid hr
      have HKP := Lib.hid hkeep
      have HOWN := Lib.hid hown
      have HT : Hid (Ints .u8 w (.slice (if vc = at_ then va else va.map (·.add at_)) (at_ + m0 - at_) (vc - at_)) ((zs.drop at_).take m0)) := by
        show Ints _ _ _ _
        rw [Nat.add_sub_cancel_left]
        exact hd.take g3
      have HRL := Lib.hid hrl
      clear hr hres hkeep hown hd hbad hqe hnq hrl
      subst hov
      have hor : vc = at_ ∨ at_ < vc := by omega
      rcases hor with rfl | hrc
      all_goals
       have hd := HT.out
       first | (rw [if_pos (Eq.refl _), Nat.sub_self] at hd) | rw [if_neg (by omega)] at hd
       have HD2 := Lib.hid hd
       clear hd
       go_wp2_with (at_builtin; go_loud (refine wpList_ints rfl (.tmp 54) (.tmp 61) rfl elemB (.slice oa out.length oc) rfl rfl (HOWN.out.keeps ((Fr.refl _ _).alloc _)) (HD2.out.keeps (Fr.alloc HKP.out _)) (by rw [List.length_take, HRL.out]; omega) (by have := HKP.out.size; simp; omega) ?_); intro v5 w5 hown5 hfr5 hat5; have hh5 := hfr5.heap (fun h => by have := (HOWN.out.lt _ h).2; omega) (heap_alloc_new wr _); have e0 := cell_of_row _ _ 0 _ _ _ hh5; have e1 := cell_of_row _ _ 1 _ _ _ hh5; simp at e0 e1; have H5 := Lib.hid hown5; have F5 := Lib.hid hfr5; clear hown5 hfr5 hat5 hh5)
       go_roundw
       all_goals go_light
       case rel =>
         refine ⟨k + 1, _, _ + m0 + m1, by omega, by go_num, by go_num, by omega, H5.out, ?_, ?_, ?_⟩
         · rw [List.length_append, List.length_take, HRL.out]; omega
         · rw [Nat.add_assoc]; exact HRS.out
         · exact (Fr.alloc HKP.out _).trans F5.out (fun i hi h => by have := (HOWN.out.lt i h).1; omega)
       case measure => simp [intOf]; omega
end Go.Proofs.Ytkckabfbngkkpaa
