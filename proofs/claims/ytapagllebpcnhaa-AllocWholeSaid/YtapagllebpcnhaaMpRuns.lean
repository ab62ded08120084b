/- The map of numbers: Runs. -/
import Derived.Test.YtapagllebpcnhaaRunsP
namespace Go.Proofs.Ytapagllebpcnhaa
open Go.RowKit

theorem elemR : Elem Try.prog 45 49 (.agg #[.int .i64 0, .int .i64 0]) 2 16 := Elem.mk' Try.underlying45 (by kernel_rfl) rfl (by decide) (by decide)

theorem wf_two {a b : Nat} (ha : a ≤ 1000000000) (hb : b ≤ 1000000000) : ∀ z ∈ [(a : Int), (b : Int)], (Lit.int .i64 z).wf = true := by
  intro z hz
  simp only [List.mem_cons, List.not_mem_nil, or_false] at hz
  rcases hz with rfl | rfl
  all_goals
    simp [Lit.wf, IntKind.min, IntKind.max, IntKind.signed, IntKind.bits]
    omega

set_option maxRecDepth 100000 in
set_option maxHeartbeats 2000000 in
theorem mapRuns {R : Nat → Prop} {w : World} {b s L : Nat} {st : List Int} {rs C : Nat} (h : MpX R w b s L st rs C) :
    Calls Try.prog 25 #[.pointer (some ⟨b, 0, none⟩)] w fun e w' => ∃ v', e = .returned v' ∧ OwnR 2 49 w.heap.size w' v' (runsP L st st.length) ∧ Keeps w w' := by
  obtain ⟨v, q, E, h⟩ := h
  have H := Lib.hid h
  obtain ⟨d0, d1, _⟩ := h.cells
  have he := h.end_
  obtain ⟨N, hN⟩ : ∃ N, N = st.length := ⟨_, rfl⟩
  rw [← hN] at d1 he ⊢
  have HN := Lib.hid hN
  clear h hN
  go_enter Try.func25, Try.ntmps25
  go_wp2_with fail
  go_loopw [3, 11] (fun ov iv wr => ∃ k : Nat, k ≤ N ∧ iv = .int .i64 k ∧ OwnR 2 49 w.heap.size wr ov (runsP L st k) ∧ Keeps w wr) (fun _ iv _ => N - (intOf iv).toNat)
  case atStart => exact ⟨0, by omega, rfl, OwnR.nil _ _ _ _, Fr.refl _ _⟩
  case round =>
    obtain ⟨k, hk, rfl, ho, hkp⟩ := hrel
    have HO := Lib.hid ho
    have HK := Lib.hid hkp
    have hrl := runsP_length L st k
    obtain ⟨oa, oc, hov⟩ := ho.form
    obtain ⟨M, hM⟩ : ∃ M, M = (runsP L st k).length := ⟨_, rfl⟩
    rw [← hM] at hrl hov
    subst hov
    have HM := Lib.hid hM
    have d0 := hkp.cell (fun h => h) d0
    have d1 := hkp.cell (fun h => h) d1
    clear ho hkp hM
    by_cases hlt : k < N
    case neg =>
      have hkN : Hid (k = N) := by show _ = _; omega
      go_wp2_with fail
      go_ret
      go_light
      refine ⟨_, rfl, by rw [← hkN.out]; exact HO.out, HK.out⟩
    case pos =>
      obtain ⟨ck, _⟩ := H.out.own.at (i := k) (by rw [← HN.out]; exact hlt)
      have ck := HK.out.cell (fun h => h) ck
      have hv := H.out.val k (by rw [← HN.out]; exact hlt)
      have HNX : Hid (runsP L st (k + 1) = if st.getD k 0 ≠ 0 then runsP L st k else if 0 < k ∧ st.getD (k - 1) 0 = 0 then bump (runsP L st k) else runsP L st k ++ [[((L + k : Nat) : Int), 1]]) := rfl
      have t1 : (0 : Int) ≤ (k : Int) := by omega
      have t2 : (k : Int) < (N : Int) := by omega
      by_cases h0 : st.getD k 0 = 0
      case neg =>
        have e : Hid (runsP L st (k + 1) = runsP L st k) := by show _ = _; rw [HNX.out, if_pos h0]
        obtain ⟨y, hy⟩ : ∃ y, y = st.getD k 0 := ⟨_, rfl⟩
        rw [← hy] at ck h0
        have hyb : (y != 0) = true := by simpa using h0
        clear hy h0 hv HNX
        go_wp2_with fail
        go_roundw
        all_goals go_light
        case rel => exact ⟨k + 1, by omega, by go_num, by rw [e.out]; exact HO.out, HK.out⟩
        case measure => simp [intOf]; omega
      case pos =>
        rw [h0] at ck
        have H0 := Lib.hid h0
        clear h0 hv
        have hor : k ≤ 0 ∨ (0 < k ∧ st.getD (k - 1) 0 ≠ 0) ∨ (0 < k ∧ st.getD (k - 1) 0 = 0) := by
          by_cases hp : st.getD (k - 1) 0 = 0
          · omega
          · by_cases hk0 : 0 < k
            · exact .inr (.inl ⟨hk0, hp⟩)
            · exact .inl (by omega)
        rcases hor with hk0 | ⟨hk0, hp⟩ | ⟨hk0, hp⟩
        · have e : Hid (runsP L st (k + 1) = runsP L st k ++ [[(L : Int) + (k : Int), 1]]) := by show _ = _; rw [HNX.out, if_neg (by rw [H0.out]; simp), if_neg (by omega), show ((L + k : Nat) : Int) = (L : Int) + (k : Int) by omega]
          have HW : Hid (∀ z ∈ [(L : Int) + (k : Int), 1], (Lit.int .i64 z).wf = true) := by
            have := wf_two (a := L + k) (b := 1) (by omega) (by omega)
            rw [show ((L + k : Nat) : Int) = (L : Int) + (k : Int) by omega] at this
            exact this
          go_wp2_with (at_builtin; go_loud (refine wpList_rec (r := [(L : Int) + (k : Int), 1]) rfl (.tmp 16) (.tmp 24) rfl elemR (.slice oa M oc) rfl rfl HO.out rfl HW.out rfl (by rw [← HM.out]; omega) HK.out.size ?_); intro v7 w7 hown7 hfr7 hat7; have H7 := Lib.hid hown7; have F7 := Lib.hid hfr7; clear hown7 hfr7 hat7)
          go_roundw
          all_goals go_light
          case rel => exact ⟨k + 1, by omega, by go_num, by rw [e.out]; exact H7.out, HK.out.trans F7.out (fun i hi h => by have := (HO.out.lt i h).1; omega)⟩
          case measure => simp [intOf]; omega
        · obtain ⟨cp, _⟩ := H.out.own.at (i := k - 1) (by rw [← HN.out]; omega)
          have cp := HK.out.cell (fun h => h) cp
          have e : Hid (runsP L st (k + 1) = runsP L st k ++ [[(L : Int) + (k : Int), 1]]) := by show _ = _; rw [HNX.out, if_neg (by rw [H0.out]; simp), if_neg (fun h => hp h.2), show ((L + k : Nat) : Int) = (L : Int) + (k : Int) by omega]
          have HW : Hid (∀ z ∈ [(L : Int) + (k : Int), 1], (Lit.int .i64 z).wf = true) := by
            have := wf_two (a := L + k) (b := 1) (by omega) (by omega)
            rw [show ((L + k : Nat) : Int) = (L : Int) + (k : Int) by omega] at this
            exact this
          obtain ⟨y, hy⟩ : ∃ y, y = st.getD (k - 1) 0 := ⟨_, rfl⟩
          rw [← hy] at cp hp
          have hyb : (y == 0) = false := by simpa using hp
          clear hy hp
          go_wp2_with (at_builtin; go_loud (refine wpList_rec (r := [(L : Int) + (k : Int), 1]) rfl (.tmp 16) (.tmp 24) rfl elemR (.slice oa M oc) rfl rfl HO.out rfl HW.out rfl (by rw [← HM.out]; omega) HK.out.size ?_); intro v7 w7 hown7 hfr7 hat7; have H7 := Lib.hid hown7; have F7 := Lib.hid hfr7; clear hown7 hfr7 hat7)
          go_roundw
          all_goals go_light
          case rel => exact ⟨k + 1, by omega, by go_num, by rw [e.out]; exact H7.out, HK.out.trans F7.out (fun i hi h => by have := (HO.out.lt i h).1; omega)⟩
          case measure => simp [intOf]; omega
        · obtain ⟨cp, _⟩ := H.out.own.at (i := k - 1) (by rw [← HN.out]; omega)
          have cp := HK.out.cell (fun h => h) cp
          rw [hp] at cp
          have e : Hid (runsP L st (k + 1) = bump (runsP L st k)) := by show _ = _; rw [HNX.out, if_neg (by rw [H0.out]; simp), if_pos ⟨hk0, hp⟩]
          have hne := runsP_ne L st k hk0 hp
          have hlp : 0 < (runsP L st k).length := List.length_pos_iff.2 hne
          obtain ⟨g, c, hgc, hc1, hc2, hg1, hg2⟩ := HO.out.formNe hlp
          obtain ⟨P, hP⟩ : ∃ P, M = P + 1 := ⟨M - 1, by rw [HM.out]; omega⟩
          subst hP
          rw [← HM.out] at hgc
          obtain ⟨rfl, rfl⟩ : oa = some ⟨g, 0, none⟩ ∧ oc = c := by cases hgc; exact ⟨rfl, rfl⟩
          have hPl : P < (runsP L st k).length := by rw [← HM.out]; omega
          obtain ⟨ca, fa⟩ := HO.out.at (i := P) (j := 1) hPl (by omega)
          obtain ⟨ra, rn, hrow, hra, hrn⟩ := runsP_row L st k P hPl
          rw [hrow] at ca
          simp only [List.getD_cons_succ, List.getD_cons_zero] at ca
          have HROW := Lib.hid hrow
          have HPL := Lib.hid hPl
          have HB : Hid (bump (runsP L st k) = (runsP L st k).set P (((runsP L st k).getD P []).set 1 ((rn : Int) + 1))) := by
            show _ = _
            unfold bump
            rw [← HM.out, Nat.add_sub_cancel, hrow]
            simp
          clear hp hne hlp hgc hrow hPl hc1 HNX
          go_wp2_with fail
          go_roundw
          all_goals go_light
          case rel =>
            refine ⟨k + 1, by omega, by go_num, ?_, HK.out.trans ((Fr.refl (fun i => i = g) wr).setAt rfl (P * 2 + 1) (.int .i64 ((rn : Int) + 1))) (fun i hi h => by omega)⟩
            rw [e.out, HB.out]
            exact HO.out.set HPL.out (by omega) (by simp [Lit.wf, IntKind.min, IntKind.max, IntKind.signed, IntKind.bits]; omega)
          case measure => simp [intOf]; omega
end Go.Proofs.Ytapagllebpcnhaa
