/- The reference's Runs. -/
import Derived.Test.YtapagllebpcnhaaMpRuns
namespace Go.Proofs.Ytapagllebpcnhaa
open Go.RowKit

theorem runsP_used {L : Nat} {st : List Int} {k : Nat} (h : st.getD k 0 ≠ 0) : runsP L st (k + 1) = runsP L st k := by rw [runsP, if_pos h]
theorem runsP_first {L : Nat} {st : List Int} {k : Nat} (h : st.getD k 0 = 0) (hp : k = 0 ∨ st.getD (k - 1) 0 ≠ 0) : runsP L st (k + 1) = runsP L st k ++ [[(L : Int) + (k : Int), 1]] := by
  rw [runsP, if_neg (by rw [h]; simp), if_neg (by
    rintro ⟨h1, h2⟩
    rcases hp with h3 | h3
    · omega
    · exact h3 h2), show ((L + k : Nat) : Int) = (L : Int) + (k : Int) by omega]
theorem runsP_next {L : Nat} {st : List Int} {k : Nat} {o : List (List Int)} {a n : Int} (h : st.getD k 0 = 0) (h0 : 0 < k) (hp : st.getD (k - 1) 0 = 0) (ho : runsP L st k = o ++ [[a, n]]) : runsP L st (k + 1) = o ++ [[a, n + 1]] := by
  rw [runsP, if_neg (by rw [h]; simp), if_pos ⟨h0, hp⟩, ho, bump_last]

set_option maxRecDepth 100000 in
set_option maxHeartbeats 2000000 in
theorem refRuns {w : World} {b l L : Nat} {st : List Int} {rs : Nat} (h : Rf w b l L st rs) :
    Calls Try.prog 26 #[.pointer (some ⟨b, 0, none⟩)] w fun e w' => ∃ v', e = .returned v' ∧ OwnR 2 49 w.heap.size w' v' (runsP L st st.length) ∧ Keeps w w' := by
  have H := Lib.hid h
  obtain ⟨d0, d1, _⟩ := h.cells
  have he := h.end_
  obtain ⟨N, hN⟩ : ∃ N, N = st.length := ⟨_, rfl⟩
  rw [← hN] at d1 he ⊢
  have HN := Lib.hid hN
  have D0 := Lib.hid d0
  have D1 := Lib.hid d1
  clear h hN d0 d1
  go_enter Try.func26, Try.ntmps26
  go_wp2_with fail
  go_loopw [3, 4] (fun ov iv wr => ∃ i : Nat, i ≤ N + 1 ∧ iv = .int .i64 i ∧ OwnR 2 49 w.heap.size wr ov (runsP L st (min i N)) ∧ Hid (i = 0 ∨ N ≤ i ∨ st.getD (i - 1) 0 ≠ 0) ∧ Keeps w wr) (fun _ iv _ => N + 1 - (intOf iv).toNat)
  case atStart => exact ⟨0, by omega, rfl, by rw [Nat.zero_min]; exact OwnR.nil _ _ _ _, .inl rfl, Fr.refl _ _⟩
  case round =>
    obtain ⟨i, hi, rfl, ho, HP, hkp⟩ := hrel
    have HO := Lib.hid ho
    have HK := Lib.hid hkp
    have hrl := runsP_length L st (min i N)
    obtain ⟨oa, oc, hov⟩ := ho.form
    obtain ⟨M, hM⟩ : ∃ M, M = (runsP L st (min i N)).length := ⟨_, rfl⟩
    rw [← hM] at hrl hov
    subst hov
    have HM := Lib.hid hM
    have d0 := hkp.cell (fun h => h) D0.out
    have d1 := hkp.cell (fun h => h) D1.out
    clear ho hkp hM
    by_cases hlt : i < N
    case neg =>
      have e : Hid (min i N = N) := by show _ = _; omega
      go_wp2_with fail
      go_ret
      go_light
      refine ⟨_, rfl, by have := HO.out; rw [e.out] at this; exact this, HK.out⟩
    case pos =>
      have HMI : Hid (min i N = i) := by show _ = _; omega
      have hm65 : M ≤ 65536 := by omega
      obtain ⟨ck, _⟩ := H.out.own.at (i := i) (by rw [← HN.out]; exact hlt)
      have ck := HK.out.cell (fun h => h) ck
      clear hrl
      by_cases h0 : st.getD i 0 = 0
      case neg =>
        have e : Hid (runsP L st (min (i + 1) N) = runsP L st (min i N)) := by show _ = _; rw [HMI.out, show min (i + 1) N = i + 1 by omega, runsP_used h0]
        have HZ := Lib.hid h0
        obtain ⟨y, hy⟩ : ∃ y, y = st.getD i 0 := ⟨_, rfl⟩
        rw [← hy] at ck h0
        have hyb : (y != 0) = true := by simpa using h0
        clear hy h0
        go_wp2_with fail
        go_roundw
        all_goals go_light
        case rel => exact ⟨i + 1, by omega, by go_num, by rw [e.out]; exact HO.out, .inr (.inr (by rw [Nat.add_sub_cancel]; exact HZ.out)), HK.out⟩
        case measure => simp [intOf]; omega
      case pos =>
        rw [h0] at ck
        have e1 : Hid (runsP L st (i + 1) = runsP L st i ++ [[(L : Int) + (i : Int), 1]]) := runsP_first h0 (by
          rcases HP.out with h | h | h
          · exact .inl h
          · omega
          · exact .inr h)
        have H0 := Lib.hid h0
        clear h0
        go_wp2_with fail
        go_loopw [5] (fun nv wx => ∃ n : Nat, 1 ≤ n ∧ i + n ≤ N ∧ nv = .int .i64 n ∧ Hid (runsP L st (i + n) = runsP L st i ++ [[(L : Int) + (i : Int), (n : Int)]] ∧ st.getD (i + n - 1) 0 = 0) ∧ wx = wr) (fun nv _ => N - (intOf nv).toNat)
        case atStart => exact ⟨1, by omega, by omega, rfl, ⟨e1.out, by rw [Nat.add_sub_cancel]; exact H0.out⟩, rfl⟩
        case round =>
          obtain ⟨n, hn1, hn2, rfl, HNN, hwx⟩ := hrel
          subst hwx
          have HW : Hid (∀ z ∈ [(L : Int) + (i : Int), (n : Int)], (Lit.int .i64 z).wf = true) := by
            have := wf_two (a := L + i) (b := n) (by omega) (by omega)
            rw [show ((L + i : Nat) : Int) = (L : Int) + (i : Int) by omega] at this
            exact this
          have hor : N ≤ i + n ∨ (i + n < N ∧ st.getD (i + n) 0 = 0) ∨ (i + n < N ∧ st.getD (i + n) 0 ≠ 0) := by
            by_cases hp : st.getD (i + n) 0 = 0
            · omega
            · by_cases h1 : i + n < N
              · exact .inr (.inr ⟨h1, hp⟩)
              · exact .inl (by omega)
          rcases hor with hq | ⟨hq, hp⟩ | ⟨hq, hp⟩
          · go_wp2_with (at_builtin; go_loud (refine wpList_rec (r := [(L : Int) + (i : Int), (n : Int)]) rfl (.tmp 46) (.tmp 55) rfl elemR (.slice oa M oc) rfl rfl HO.out rfl HW.out rfl (by rw [← HM.out]; omega) HK.out.size ?_); intro v7 w7 hown7 hfr7 hat7; have H7 := Lib.hid hown7; have F7 := Lib.hid hfr7; clear hown7 hfr7 hat7)
            go_roundw
            all_goals go_light
            case rel =>
              refine ⟨i + n + 1, by omega, by go_num, ?_, .inr (.inl (by omega)), HK.out.trans F7.out (fun i hi h => by have := (HO.out.lt i h).1; omega)⟩
              rw [show min (i + n + 1) N = i + n by omega, HNN.out.1]
              have := H7.out
              rw [HMI.out] at this
              exact this
            case measure => simp [intOf]; omega
          · have HP' := Lib.hid hp
            obtain ⟨cn, _⟩ := H.out.own.at (i := i + n) (by rw [← HN.out]; exact hq)
            have cn := HK.out.cell (fun h => h) cn
            rw [hp] at cn
            clear hp
            go_wp2_with fail
            go_roundw
            all_goals go_light
            case rel => exact ⟨n + 1, by omega, by omega, by go_num, ⟨runsP_next HP'.out (by omega) HNN.out.2 HNN.out.1, HP'.out⟩, trivial⟩
            case measure => simp [intOf]; omega
          · have HP' := Lib.hid hp
            obtain ⟨cn, _⟩ := H.out.own.at (i := i + n) (by rw [← HN.out]; exact hq)
            have cn := HK.out.cell (fun h => h) cn
            obtain ⟨y, hy⟩ : ∃ y, y = st.getD (i + n) 0 := ⟨_, rfl⟩
            rw [← hy] at cn hp
            have hyb : (y == 0) = false := by simpa using hp
            clear hy hp
            go_wp2_with (at_builtin; go_loud (refine wpList_rec (r := [(L : Int) + (i : Int), (n : Int)]) rfl (.tmp 46) (.tmp 55) rfl elemR (.slice oa M oc) rfl rfl HO.out rfl HW.out rfl (by rw [← HM.out]; omega) HK.out.size ?_); intro v7 w7 hown7 hfr7 hat7; have H7 := Lib.hid hown7; have F7 := Lib.hid hfr7; clear hown7 hfr7 hat7)
            go_roundw
            all_goals go_light
            case rel =>
              refine ⟨i + n + 1, by omega, by go_num, ?_, .inr (.inr (by rw [Nat.add_sub_cancel]; exact HP'.out)), HK.out.trans F7.out (fun i hi h => by have := (HO.out.lt i h).1; omega)⟩
              rw [show min (i + n + 1) N = i + n + 1 by omega, runsP_used HP'.out, HNN.out.1]
              have := H7.out
              rw [HMI.out] at this
              exact this
            case measure => simp [intOf]; omega
end Go.Proofs.Ytapagllebpcnhaa
