/- The bytes that stand as they are: the plain law, the program's and the reference's. -/
import Derived.Test.YtkckabfbngkkpaaElems
import Derived.Test.YtkckabfbngkkpaaRecs
import Derived.Deep.LoopGhost
namespace Go.Proofs.Ytkckabfbngkkpaa
open Go.RowKit

def LitBad (q : List Int) (left : Int) : Prop := q.getD 0 0 < 0 ∨ q.getD 1 0 < 0 ∨ q.getD 2 0 < 0 ∨ left < q.getD 0 0 ∨ left - q.getD 0 0 < q.getD 1 0
instance (q : List Int) (left : Int) : Decidable (LitBad q left) := by unfold LitBad; infer_instance
def litS : List (List Int) → List Int → List Int → List Int × Int
  | [], rest, out => (out ++ rest, 0)
  | q :: qs, rest, out => if LitBad q rest.length then ([], 5) else litS qs (rest.drop (q.getD 0 0 + q.getD 1 0).toNat) (out ++ rest.take (q.getD 0 0).toNat)
theorem litS_end {qs : List (List Int)} {k : Nat} (h : k = qs.length) (rest out : List Int) : litS (qs.drop k) rest out = (out ++ rest, 0) := by
  rw [h, List.drop_length]; rfl
theorem litS_bad {qs : List (List Int)} {k : Nat} (h : k < qs.length) {rest out : List Int} (hb : LitBad (qs.getD k []) rest.length) : litS (qs.drop k) rest out = ([], 5) := by
  have e : qs.getD k [] = qs[k] := by rw [List.getD_eq_getElem?_getD, List.getElem?_eq_getElem h]; rfl
  rw [e] at hb
  rw [List.drop_eq_getElem_cons h, litS, if_pos hb]
theorem litS_ok {qs : List (List Int)} {k : Nat} (h : k < qs.length) {rest out : List Int} (hb : ¬ LitBad (qs.getD k []) rest.length) :
    litS (qs.drop k) rest out = litS (qs.drop (k + 1)) (rest.drop ((qs.getD k []).getD 0 0 + (qs.getD k []).getD 1 0).toNat) (out ++ rest.take ((qs.getD k []).getD 0 0).toNat) := by
  have e : qs.getD k [] = qs[k] := by rw [List.getD_eq_getElem?_getD, List.getElem?_eq_getElem h]; rfl
  rw [e] at hb ⊢
  rw [List.drop_eq_getElem_cons h, litS, if_neg hb]

/-- the row behind index k, its cells in whatever later world -/
theorem Recs.row3 {w : World} {a : Option Addr} {n c : Nat} {qs : List (List Int)} (h : Recs 3 w (.slice a n c) qs) {k : Nat} (hk : k < n) :
    n = qs.length ∧ ∃ b off, a = some ⟨b, off, none⟩ ∧ b < w.heap.size ∧ ∃ q0 q1 q2, qs.getD k [] = [q0, q1, q2] ∧ w.cell? ⟨b, off + k * 3, none⟩ = some (.int .i64 q0) ∧ w.cell? ⟨b, off + k * 3 + 1, none⟩ = some (.int .i64 q1) ∧ w.cell? ⟨b, off + k * 3 + 2, none⟩ = some (.int .i64 q2) ∧
      (-9223372036854775808 ≤ q0 ∧ q0 ≤ 9223372036854775807) ∧ (-9223372036854775808 ≤ q1 ∧ q1 ≤ 9223372036854775807) ∧ (-9223372036854775808 ≤ q2 ∧ q2 ≤ 9223372036854775807) := by
  have h' := h
  obtain ⟨h1, a', c', hv, _, _, hc⟩ := h
  cases hv
  obtain ⟨b, off, e, hcell⟩ := hc k hk
  have e : qs.getD k [] = qs[k] := by rw [List.getD_eq_getElem?_getD, List.getElem?_eq_getElem hk]; rfl
  have hl := (h1 _ (List.getElem_mem hk)).1
  rw [← e] at hl
  have h0 := h'.wf hk (j := 0) (by omega)
  have h2 := h'.wf hk (j := 1) (by omega)
  have h3 := h'.wf hk (j := 2) (by omega)
  refine ⟨rfl, b, off, ‹_›, World.block_lt_of_cell? w _ (hcell 0 (by omega)), _, _, _, ?_, hcell 0 (by omega), hcell 1 (by omega), hcell 2 (by omega), h0, h2, h3⟩
  match hq : qs.getD k [], hl with
  | [x, y, z], _ => rfl

set_option maxHeartbeats 2000000 in
theorem matchLiterals {w : World} {v u : Value} {zs : List Int} {qs : List (List Int)} (h : Ints .u8 w v zs) (hz : zs.length ≤ 140737488351232) (hq : Recs 3 w u qs) (hqn : qs.length ≤ 5864062014634) :
    Calls Try.prog 17 #[v, u] w fun e w' => ∃ v', e = .returned (.tuple #[v', .int .i64 (litS qs zs []).2]) ∧ Own .u8 5 w.heap.size w' v' (litS qs zs []).1 ∧ Keeps w w' := by
  have HQ := Lib.hid hq
  obtain ⟨_, ua, uc, rfl, _, _, _⟩ := hq
  obtain ⟨n, hn⟩ : ∃ n, n = qs.length := ⟨_, rfl⟩
  rw [← hn] at hqn HQ ⊢
  have HN := Lib.hid hn
  have HI := Lib.hid h
  obtain ⟨R, hR⟩ : ∃ R, R = litS qs zs [] := ⟨_, rfl⟩
  rw [← hR]
  have HR := Lib.hid hR
  clear hn hR
  go_enter Try.func17, Try.ntmps17
  go_wp2_with fail
  go_loopw [6, 7, 13] (fun ov rv i wr => ∃ (k : Nat) (out rest : List Int), k ≤ n ∧ i = .int .i64 k ∧ Own .u8 5 w.heap.size wr ov out ∧ Ints .u8 w rv rest ∧ out.length + rest.length ≤ zs.length ∧ R = litS (qs.drop k) rest out ∧ Keeps w wr) (fun _ _ i _ => n - (intOf i).toNat)
  case atStart => exact ⟨0, [], zs, by omega, rfl, Own.nil _ _ _ _, HI.out, by simp, HR.out, Fr.refl _ _⟩
  case round =>
    obtain ⟨k, out, rest, hk, rfl, hown, hint, hlen, hres, hkeep⟩ := hrel
    obtain ⟨ra, rc, hrv⟩ := hint.form
    have hrl := hint.len'
    obtain ⟨oa, oc, hov⟩ := hown.form
    obtain ⟨M, hM⟩ : ∃ M, M = rest.length := ⟨_, rfl⟩
    rw [← hM] at hrv hlen hrl
    subst hrv
    have HM := Lib.hid hM
    by_cases hlt : k < n
    case neg =>
      have hkn : k = n := by omega
      subst hkn
      have hr := hres.trans (litS_end HN.out _ _)
      have HRS := Lib.hid hr
      have HKP := Lib.hid hkeep
      have HOWN := Lib.hid hown
      have HINT := Lib.hid hint
      clear hr hres hkeep hown hint hM
      subst hov
      go_wp2_with (at_builtin; go_loud (refine wpList_ints rfl (.tmp 61) (.tmp 62) rfl elemB (.slice oa out.length oc) rfl rfl HOWN.out (HINT.out.keeps HKP.out) (by rw [← HM.out]; omega) HKP.out.size ?_); intro v5 w5 hown5 hfr5 hat5; have H5 := Lib.hid hown5; have F5 := Lib.hid hfr5; clear hown5 hfr5 hat5)
      go_ret2
      go_light
      exact ⟨v5, by rw [HRS.out]; rfl, by rw [HRS.out]; exact H5.out, HKP.out.trans F5.out (fun i hi h => by have := (HOWN.out.lt i h).1; omega)⟩
    obtain ⟨hnq, lb, lo, hla, hlb, q0, q1, q2, hqe, c0, c1, c2, b0, b1, b2⟩ := HQ.out.row3 hlt
    subst hla
    have c0 := hkeep.cell (fun h => h) c0
    have c1 := hkeep.cell (fun h => h) c1
    have c2 := hkeep.cell (fun h => h) c2
    by_cases hbad : LitBad (qs.getD k []) rest.length
    · have hr := hres.trans (litS_bad (by omega) hbad)
      rw [hqe, ← hM] at hbad
      have hb2 : q0 < 0 ∨ (0 ≤ q0 ∧ q1 < 0) ∨ (0 ≤ q0 ∧ 0 ≤ q1 ∧ q2 < 0) ∨ (0 ≤ q0 ∧ 0 ≤ q1 ∧ 0 ≤ q2 ∧ M < q0) ∨ (0 ≤ q0 ∧ 0 ≤ q1 ∧ 0 ≤ q2 ∧ q0 ≤ M ∧ M - q0 < q1) := by
        simp only [LitBad, List.getD_cons_zero, List.getD_cons_succ] at hbad
        omega
      have HRS := Lib.hid hr
      have HKP := Lib.hid hkeep
      clear hr hres hkeep hown hint hov hbad hqe hnq hM
      rcases hb2 with hb | ⟨g0, hb⟩ | ⟨g0, g1, hb⟩ | ⟨g0, g1, g2, hb⟩ | ⟨g0, g1, g2, g3, hb⟩
      all_goals
        go_wp2_with fail
        go_ret2
        go_light
        exact ⟨.slice none 0 0, by rw [HRS.out]; rfl, by rw [HRS.out]; exact Own.nil _ _ _ _, Fr.alloc HKP.out _⟩
    · have hr := hres.trans (litS_ok (by omega) hbad)
      rw [hqe, ← hM] at hbad
      rw [hqe] at hr
      simp only [LitBad, List.getD_cons_zero, List.getD_cons_succ] at hbad hr
      obtain ⟨m0, rfl⟩ := Int.eq_ofNat_of_zero_le (show 0 ≤ q0 by omega)
      obtain ⟨m1, rfl⟩ := Int.eq_ofNat_of_zero_le (show 0 ≤ q1 by omega)
      have g2 : 0 ≤ q2 := by omega
      have g3 : m0 ≤ M := by omega
      have g4 : m0 + m1 ≤ M := by omega
      rw [show ((m0 : Int) + (m1 : Int)).toNat = m0 + m1 from by omega, Int.toNat_natCast] at hr
      have HRS := Lib.hid hr
      have HKP := Lib.hid hkeep
      have HOWN := Lib.hid hown
      have HT := Lib.hid (hint.take g3)
      have hd := hint.drop g4
      have g5 : (m1 : Int) ≤ (M : Int) - (m0 : Int) := by omega
      have hMc := hint.len.2
      clear hr hres hkeep hown hint hbad hqe hnq hM
      subst hov
      have HD := Lib.hid hd
      clear hd
      have hor : rc = m0 + m1 ∨ m0 + m1 < rc := by omega
      rcases hor with rfl | hrc
      all_goals
       go_wp2_with (at_builtin; go_loud (refine wpList_ints rfl (.tmp 47) (.tmp 51) rfl elemB (.slice oa out.length oc) rfl rfl (HOWN.out.keeps ((Fr.refl _ _).alloc _)) (HT.out.keeps (Fr.alloc HKP.out _)) (by rw [List.length_take, ← HM.out]; omega) (by have := HKP.out.size; simp; omega) ?_); intro v5 w5 hown5 hfr5 hat5; have hh5 := hfr5.heap (fun h => by have := (HOWN.out.lt _ h).2; omega) (heap_alloc_new wr _); have e0 := cell_of_row _ _ 0 _ _ _ hh5; have e1 := cell_of_row _ _ 1 _ _ _ hh5; simp at e0 e1; have H5 := Lib.hid hown5; have F5 := Lib.hid hfr5; clear hown5 hfr5 hat5 hh5)
       have hd := HD.out
       first | rw [if_pos (show m0 + m1 = m0 + m1 from rfl)] at hd | rw [if_neg (by omega)] at hd
       have HD2 := Lib.hid hd
       clear hd
       go_roundw
       all_goals go_light
       case rel =>
         refine ⟨k + 1, out ++ rest.take m0, rest.drop (m0 + m1), by omega, by go_num, H5.out, HD2.out, ?_, HRS.out, ?_⟩
         · rw [List.length_append, List.length_take, List.length_drop, ← HM.out]; omega
         · exact (Fr.alloc HKP.out _).trans F5.out (fun i hi h => by have := (HOWN.out.lt i h).1; omega)
       case measure => simp [intOf]; omega
end Go.Proofs.Ytkckabfbngkkpaa
