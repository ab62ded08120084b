/- The reference's Find. -/
import Derived.Test.YtkckabfbngkkpaaRefBest
import Derived.Test.YtkckabfbngkkpaaOwnRecs
namespace Go.Proofs.Ytkckabfbngkkpaa
open Go.RowKit

theorem elemQ : Elem Try.prog 23 35 (.agg #[.int .i64 0, .int .i64 0, .int .i64 0]) 3 24 := Elem.mk' Try.underlying23 (by kernel_rfl) rfl (by decide) (by decide)
theorem wf_nat {n : Nat} (h : n ≤ 1000000000) : (Lit.int .i64 (n : Int)).wf = true := by
  simp [Lit.wf, IntKind.min, IntKind.max, IntKind.signed, IntKind.bits]
  omega
theorem wf_three {a b c : Nat} (ha : a ≤ 1000000000) (hb : b ≤ 1000000000) (hc : c ≤ 1000000000) : ∀ z ∈ [(a : Int), (b : Int), (c : Int)], (Lit.int .i64 z).wf = true := by
  intro z hz
  simp only [List.mem_cons, List.not_mem_nil, or_false] at hz
  rcases hz with rfl | rfl | rfl
  · exact wf_nat ha
  · exact wf_nat hb
  · exact wf_nat hc
/-- arguments that Find refuses -/
def FindBad (len : Nat) (win : Int) : Prop := 65536 < len ∨ win < 1 ∨ 65536 < win

theorem refFindNo {w : World} {v : Value} {zs : List Int} {win : Int} (h : Ints .u8 w v zs) (hb : FindBad zs.length win) :
    Calls Try.prog 10 #[v, .int .i64 win] w fun e w' => e = .returned (.tuple #[.slice none 0 0, .int .i64 1]) ∧ w' = w := by
  obtain ⟨va, vc, hv⟩ := h.form
  obtain ⟨Z, hZ⟩ : ∃ Z, Z = zs.length := ⟨_, rfl⟩
  rw [← hZ] at hv hb
  subst hv
  have hZc := h.len.2
  have hor : 65536 < Z ∨ (Z ≤ 65536 ∧ win < 1) ∨ (Z ≤ 65536 ∧ 1 ≤ win ∧ 65536 < win) := by unfold FindBad at hb; omega
  clear h hb hZ
  rcases hor with h | ⟨h1, h2⟩ | ⟨h1, h2, h3⟩
  all_goals
    go_enter Try.func10, Try.ntmps10
    go_wp2_with fail
    go_ret2
    exact ⟨rfl, rfl⟩

set_option maxRecDepth 100000 in
set_option maxHeartbeats 4000000 in
theorem refFind {w : World} {v : Value} {zs : List Int} {win : Nat} (h : Ints .u8 w v zs) (hz : zs.length ≤ 65536) (hw1 : 1 ≤ win) (hw : win ≤ 65536) :
    Calls Try.prog 10 #[v, .int .i64 win] w fun e w' => ∃ v', e = .returned (.tuple #[v', .int .i64 0]) ∧ OwnR 3 35 w.heap.size w' v' (findS zs win 0 0) ∧ Keeps w w' := by
  obtain ⟨va, vc, hv⟩ := h.form
  obtain ⟨Z, hZ⟩ : ∃ Z, Z = zs.length := ⟨_, rfl⟩
  rw [← hZ] at hv hz
  subst hv
  have hZc := h.len.2
  have HZ := Lib.hid hZ
  have HI := Lib.hid h
  obtain ⟨R, hR⟩ : ∃ R, R = findS zs win 0 0 := ⟨_, rfl⟩
  rw [← hR]
  have HR := Lib.hid hR
  clear h hZ hR
  go_enter Try.func10, Try.ntmps10
  go_wp2_with fail
  go_loopw [6, 7, 8] (fun ov lv iv wr => ∃ (i lits : Nat) (acc : List (List Int)), i ≤ Z ∧ lits ≤ i ∧ lv = .int .i64 lits ∧ iv = .int .i64 i ∧ OwnR 3 35 w.heap.size wr ov acc ∧ acc.length ≤ i ∧ R = acc ++ findS zs win i lits ∧ Keeps w wr) (fun _ _ iv _ => Z - (intOf iv).toNat)
  case atStart => exact ⟨0, 0, [], by omega, by omega, rfl, rfl, OwnR.nil _ _ _ _, by simp, HR.out, Fr.refl _ _⟩
  case round =>
    obtain ⟨i, lits, acc, hi, hli, rfl, rfl, hown, hal, hres, hk⟩ := hrel
    obtain ⟨oa, oc, hov⟩ := hown.form
    obtain ⟨L, hL⟩ : ∃ L, L = acc.length := ⟨_, rfl⟩
    rw [← hL] at hov hal
    subst hov
    have HL := Lib.hid hL
    have HO := Lib.hid hown
    have HRS := Lib.hid hres
    have HK := Lib.hid hk
    clear hown hres hk hL
    by_cases hlt : i < Z
    case neg =>
      go_wp2_with fail
      go_ret2
      go_light
      have e : R = acc := by rw [HRS.out, findS_end (by rw [← HZ.out]; omega), List.append_nil]
      exact ⟨_, rfl, by rw [e]; exact HO.out, HK.out⟩
    have hc1 := fun (wx : World) (kx : Keeps w wx) => refBest (i := i) (HI.out.keeps kx) (by rw [← HZ.out]; omega) hw (by omega)
    have hc2 := fun (wx : World) (kx : Keeps w wx) => refBest (i := i + 1) (HI.out.keeps kx) (by rw [← HZ.out]; omega) hw (by omega)
    have hb1 := best_le zs win i
    have hb2 := best_snd zs win i
    have hb3 := best_len zs win i
    have hb4 := best_le zs win (i + 1)
    rw [← HZ.out] at hb3
    have hlit : IsLit zs win i ∨ (0 < (best zs win i).1 ∧ (best zs win (i + 1)).1 ≤ (best zs win i).1 ∧ ¬ IsLit zs win i) := by
      by_cases hl : IsLit zs win i
      · exact .inl hl
      · have := not_lit hl
        exact .inr ⟨by omega, by omega, hl⟩
    have HLIT := Lib.hid hlit
    have HDEF : Hid (∀ h : IsLit zs win i, (best zs win i).1 = 0 ∨ (0 < (best zs win i).1 ∧ (best zs win i).1 < (best zs win (i + 1)).1)) := fun h => by
      unfold IsLit at h; omega
    have HSTEP : Hid (¬ IsLit zs win i → findS zs win i lits = [(lits : Int), ((best zs win i).1 : Int), ((best zs win i).2 : Int)] :: findS zs win (i + (best zs win i).1) 0) := fun h => findS_step (by rw [← HZ.out]; omega) h
    have HLS : Hid (IsLit zs win i → findS zs win i lits = findS zs win (i + 1) (lits + 1)) := fun h => findS_lit (by rw [← HZ.out]; omega) h
    generalize (best zs win i).1 = n at *
    generalize (best zs win i).2 = d at *
    generalize (best zs win (i + 1)).1 = m at *
    generalize (best zs win (i + 1)).2 = d2 at *
    have HC1 := Lib.hid hc1
    have HC2 := Lib.hid hc2
    clear hc1 hc2 hlit
    go_wp2_with fail
    refine (HC1.out _ HK.out).mono ?_
    rintro e w5 ⟨rfl, k5⟩
    have K5 : Hid (Keeps w w5) := HK.out.keeps k5
    have KO5 := Lib.hid k5
    clear k5
    go_wp2_with fail
    refine (HC2.out _ K5.out).mono ?_
    rintro e w6 ⟨rfl, k6⟩
    have K6 : Hid (Keeps w w6) := K5.out.keeps k6
    have KO6 : Hid (Keeps wr w6) := KO5.out.keeps k6
    clear k6
    have hor : IsLit zs win i ∨ (0 < n ∧ m ≤ n ∧ ¬ IsLit zs win i) := HLIT.out
    rcases hor with hl | ⟨g1, g2, hl⟩
    · have hor := HDEF.out hl
      have HL2 := Lib.hid (HLS.out hl)
      clear hl
      rcases hor with g1 | ⟨g1, g2⟩
      · have g1 : n ≤ 0 := by omega
        go_wp2_with fail
        go_roundw
        all_goals go_light
        case rel => exact ⟨i + 1, lits + 1, acc, by omega, by omega, by go_num, by go_num, HO.out.keeps KO6.out, by rw [← HL.out]; omega, by rw [HRS.out, HL2.out], K6.out⟩
        case measure => simp [intOf]; omega
      · go_wp2_with fail
        go_roundw
        all_goals go_light
        case rel => exact ⟨i + 1, lits + 1, acc, by omega, by omega, by go_num, by go_num, HO.out.keeps KO6.out, by rw [← HL.out]; omega, by rw [HRS.out, HL2.out], K6.out⟩
        case measure => simp [intOf]; omega
    · have HL2 := Lib.hid (HSTEP.out hl)
      clear hl
      have HO6 := Lib.hid (HO.out.keeps KO6.out)
      have t9 : ((n : Int) == 0) = false := by simp; omega
      go_wp2_with (at_builtin; go_loud (refine wpList_rec (r := [(lits : Int), (n : Int), (d : Int)]) rfl (.tmp 54) (.tmp 59) rfl elemQ (.slice oa L oc) rfl rfl HO6.out rfl (wf_three (by omega) (by omega) (by omega)) rfl (by rw [← HL.out]; omega) K6.out.size ?_); intro v7 w7 hown7 hfr7 hat7; have H7 := Lib.hid hown7; have F7 := Lib.hid hfr7; clear hown7 hfr7 hat7)
      go_roundw
      all_goals go_light
      case rel =>
        refine ⟨i + n, 0, _, by omega, by omega, by go_num, by go_num, H7.out, by rw [List.length_append, List.length_singleton, ← HL.out]; omega, by rw [HRS.out, HL2.out, List.append_assoc]; rfl, K6.out.trans F7.out (fun i hi h => by have := (HO6.out.lt i h).1; omega)⟩
      case measure => simp [intOf]; omega
end Go.Proofs.Ytkckabfbngkkpaa
