/- The program's Find. -/
import Derived.Test.YtkckabfbngkkpaaRefFind
import Derived.Test.YtkckabfbngkkpaaFinBest
import Derived.Deep.OwnRows
import Derived.Test.YtkckabfbngkkpaaFinNew
namespace Go.Proofs.Ytkckabfbngkkpaa
open Go.RowKit

theorem matchFindNo {w : World} {v : Value} {zs : List Int} {win : Int} (h : Ints .u8 w v zs) (hb : FindBad zs.length win) :
    Calls Try.prog 9 #[v, .int .i64 win] w fun e w' => e = .returned (.tuple #[.slice none 0 0, .int .i64 1]) ∧ w' = w := by
  obtain ⟨va, vc, hv⟩ := h.form
  obtain ⟨Z, hZ⟩ : ∃ Z, Z = zs.length := ⟨_, rfl⟩
  rw [← hZ] at hv hb
  subst hv
  have hZc := h.len.2
  have hor : 65536 < Z ∨ (Z ≤ 65536 ∧ win < 1) ∨ (Z ≤ 65536 ∧ 1 ≤ win ∧ 65536 < win) := by unfold FindBad at hb; omega
  clear h hb hZ
  rcases hor with h | ⟨h1, h2⟩ | ⟨h1, h2, h3⟩
  all_goals
    go_enter Try.func9, Try.ntmps9
    go_wp2_with fail
    go_ret2
    exact ⟨rfl, rfl⟩

theorem infoInt : (Try.prog.info? 3).map (fun i => (i.zero, i.size, i.bytes)) = some (some (.int .i64 0), 1, 8) := by kernel_rfl

set_option maxRecDepth 100000 in
set_option maxHeartbeats 4000000 in
theorem matchFind {w : World} {v : Value} {zs : List Int} {win : Nat} (h : Ints .u8 w v zs) (hz : zs.length ≤ 65536) (hw1 : 1 ≤ win) (hw : win ≤ 65536) :
    Calls Try.prog 9 #[v, .int .i64 win] w fun e w' => ∃ v', e = .returned (.tuple #[v', .int .i64 0]) ∧ OwnR 3 35 w.heap.size w' v' (findS zs win 0 0) ∧ Keeps w w' := by
  obtain ⟨va, vc, hv⟩ := h.form
  obtain ⟨Z, hZ⟩ : ∃ Z, Z = zs.length := ⟨_, rfl⟩
  rw [← hZ] at hv hz
  subst hv
  have hZc := h.len.2
  have HZ := Lib.hid hZ
  have HI := Lib.hid h
  obtain ⟨R, hR⟩ : ∃ R, R = findS zs win 0 0 := ⟨_, rfl⟩
  rw [← hR]
  have HR := Lib.hid hR
  clear h hZ hR
  have hmk := run_make_row' (P := Try.prog) 41 3 (.int .i64 0) 8 Try.underlying41 infoInt rfl .i64 .i64 Z (by omega) (by omega)
  go_enter Try.func9, Try.ntmps9
  obtain ⟨C, hC, hCs, hC0, hC1, hCh, hCa, hCk⟩ := builtFinder (.slice va Z vc) (.int .i64 win) (.slice (some ⟨w.heap.size, 0, none⟩) Z Z) rfl rfl rfl
  have HCS := Lib.hid hC
  clear hC
  go_wp2_with (first | (refine wpList_built3 rfl 44 0 1 3 (.tmp 25) (.tmp 26) (.tmp 29) rfl (.slice va Z vc) (.int .i64 win) (.slice (some ⟨w.heap.size, 0, none⟩) Z Z) rfl rfl rfl HCS.out ?_))
  have HF0 : Hid (Fin4 ((w.alloc (.cells (madeCells #[.int .i64 0] Z) 3)).alloc (.cells C 44)) (w.heap.size + 1) (.slice va Z vc) win w.heap.size zs 0) := by
    show Fin4 _ _ _ _ _ _ _
    have := Fin4.new (E := 3) (T := 44) HI.out hC0 hC1 hCh (by rw [← HZ.out]; exact hCa) hCk
    rwa [← HZ.out] at this
  obtain ⟨w2, hw2⟩ : ∃ w2, w2 = (w.alloc (.cells (madeCells #[.int .i64 0] Z) 3)).alloc (.cells C 44) := ⟨_, rfl⟩
  rw [← hw2] at HF0
  have KW : Hid (Keeps w w2) := by rw [hw2]; exact ((Fr.refl _ _).alloc _).alloc _
  have HS2 : Hid (w2.heap.size = w.heap.size + 2) := by show _ = _; rw [hw2]; simp
  rw [← hw2]
  obtain ⟨b, hb⟩ : ∃ b, b = w.heap.size + 1 := ⟨_, rfl⟩
  obtain ⟨g, hg⟩ : ∃ g, g = w.heap.size := ⟨_, rfl⟩
  have HBG : Hid (b = w.heap.size + 1 ∧ g = w.heap.size) := ⟨hb, hg⟩
  have HF0 : Hid (Fin4 w2 b (.slice va Z vc) win g zs 0) := by rw [hb, hg]; exact HF0
  rw [← hb]
  have HDV : Hid (∀ x n c, Value.slice va Z vc = .slice (some x) n c → 0 < n → x.block < w.heap.size) := fun x n c hx hn => by
    obtain ⟨_, a, cap, hv, _, _, _, hc⟩ := HI.out
    rw [hx] at hv
    cases hv
    obtain ⟨xb, off, e, hcell⟩ := hc 0 hn
    cases e
    exact World.block_lt_of_cell? _ _ hcell
  clear hw2 hb hg hC0 hC1 hCh hCa hCk hCs HCS hmk
  have HBC : Hid (∀ (wx : World) (K i : Nat) (j : Int), Fin4 wx b (.slice va Z vc) win g zs K → K ≤ i → i ≤ Z + 1 → j = (i : Nat) → Calls Try.prog 19 #[.pointer (some ⟨b, 0, none⟩), .int .i64 j] wx fun e w' => e = .returned (.tuple #[.int .i64 ((best zs win i).1 : Nat), .int .i64 ((best zs win i).2 : Nat)]) ∧ (∃ K', K' ≤ i ∧ Fin4 w' b (.slice va Z vc) win g zs K') ∧ Fr (fun k => k = b ∨ k = g) wx w') := fun wx K i j hf h1 h2 hj => by
    rw [hj]
    exact finBestAny hf (by rw [← HZ.out]; omega) hw h1 (by rw [← HZ.out]; omega)
  refine (HBC.out w2 0 0 0 HF0.out (by omega) (by omega) rfl).mono ?_
  rintro e w3 ⟨rfl, ⟨K3, hK3, hf3⟩, hfr3⟩
  have HF3 := Lib.hid hf3
  have FR3 := Lib.hid hfr3
  clear hf3 hfr3
  have hst : Hid (∃ n d, n = (best zs win 0).1 ∧ d = (best zs win 0).2) := ⟨_, _, rfl, rfl⟩
  obtain ⟨n0, d0, hn0, hd0⟩ := hst.out
  rw [← hn0, ← hd0]
  have HN0 := Lib.hid hn0
  have HD0 := Lib.hid hd0
  clear hn0 hd0 hst
  go_wp2_with fail
  go_loopw [7, 8, 9, 10, 11] (fun ov fv nv dv iv wr => ∃ (i fr K n d : Nat) (acc : List (List Int)), i ≤ Z ∧ fr ≤ i ∧ fv = .int .i64 fr ∧ iv = .int .i64 i ∧ nv = .int .i64 n ∧ dv = .int .i64 d ∧ n = (best zs win i).1 ∧ d = (best zs win i).2 ∧ K ≤ i ∧ Fin4 wr b (.slice va Z vc) win g zs K ∧ OwnR 3 35 (w.heap.size + 2) wr ov acc ∧ acc.length ≤ i ∧ R = acc ++ findS zs win i (i - fr) ∧ Fr (fun k => k = b ∨ k = g) w2 wr) (fun _ _ _ _ iv _ => Z - (intOf iv).toNat)
  case atStart => exact ⟨0, 0, K3, n0, d0, [], by omega, by omega, rfl, rfl, rfl, rfl, HN0.out, HD0.out, hK3, HF3.out, OwnR.nil _ _ _ _, by simp, HR.out, FR3.out⟩
  case round =>
    obtain ⟨i, fr, K, n, d, acc, hi, hfi, rfl, rfl, rfl, rfl, hn, hd, hKi, hf, hown, hal, hres, hfr⟩ := hrel
    obtain ⟨oa, oc, hov⟩ := hown.form
    obtain ⟨L, hL⟩ : ∃ L, L = acc.length := ⟨_, rfl⟩
    rw [← hL] at hov hal
    subst hov
    have HL := Lib.hid hL
    have HO := Lib.hid hown
    have HRS := Lib.hid hres
    have HF := Lib.hid hf
    have HFR := Lib.hid hfr
    have HNN : Hid (n = (best zs win i).1 ∧ d = (best zs win i).2) := ⟨hn, hd⟩
    have HSZ : Hid (w.heap.size + 2 ≤ wr.heap.size) := by have := hfr.size; rw [HS2.out] at this; exact this
    clear hown hres hf hfr hL hn hd
    by_cases hlt : i < Z
    case neg =>
      go_wp2_with fail
      go_ret2
      go_light
      have e : R = acc := by rw [HRS.out, findS_end (by rw [← HZ.out]; omega), List.append_nil]
      exact ⟨_, rfl, by rw [e]; exact HO.out.mono (by omega), KW.out.trans HFR.out (fun i hi h => by have := HBG.out; omega)⟩
    have hb1 := best_le zs win i
    have hb2 := best_snd zs win i
    have hb3 := best_len zs win i
    rw [← HNN.out.1] at hb1 hb3
    rw [← HNN.out.2] at hb2
    rw [← HZ.out] at hb3
    obtain ⟨n1, d1, hn1, hd1⟩ : ∃ n1 d1, n1 = (best zs win (i + 1)).1 ∧ d1 = (best zs win (i + 1)).2 := ⟨_, _, rfl, rfl⟩
    have hc1 := HBC.out wr K (i + 1) (i + 1) HF.out (by omega) (by omega) (by omega)
    rw [← hn1, ← hd1] at hc1
    have HC1 := Lib.hid hc1
    have HN1 : Hid (n1 = (best zs win (i + 1)).1 ∧ d1 = (best zs win (i + 1)).2) := ⟨hn1, hd1⟩
    have HOB : Hid (∀ j, (Value.slice oa L oc).ownBlock = some j → ¬ (j = b ∨ j = g)) := fun j hj => by have := (HO.out.lt j hj).1; have := HBG.out; omega
    have HLS : Hid (IsLit zs win i → findS zs win i (i - fr) = findS zs win (i + 1) (i + 1 - fr)) := fun h => by rw [findS_lit (by rw [← HZ.out]; omega) h, show i - fr + 1 = i + 1 - fr by omega]
    clear hc1 hn1 hd1
    rcases Nat.eq_zero_or_pos n with rfl | hpos
    · have HL2 := Lib.hid (HLS.out (.inl HNN.out.1.symm))
      go_wp2_with fail
      refine HC1.out.mono ?_
      rintro e w5 ⟨rfl, ⟨K5, hK5, hf5⟩, hfr5⟩
      have HF5 := Lib.hid hf5
      have FR5 := Lib.hid (HFR.out.trans hfr5 (fun i hi h => h))
      have HO5 := Lib.hid (HO.out.fr hfr5 HOB.out)
      clear hf5 hfr5
      go_wp2_with fail
      go_roundw
      all_goals go_light
      case rel => exact ⟨i + 1, fr, K5, n1, d1, acc, by omega, by omega, rfl, by go_num, rfl, rfl, HN1.out.1, HN1.out.2, by omega, HF5.out, HO5.out, by rw [← HL.out]; omega, by rw [HRS.out, HL2.out], FR5.out⟩
      case measure => simp [intOf]; omega
    · have t9 : ((n : Int) == 0) = false := by simp; omega
      go_wp2_with fail
      refine HC1.out.mono ?_
      rintro e w5 ⟨rfl, ⟨K5, hK5, hf5⟩, hfr5⟩
      have HF5 := Lib.hid hf5
      have FR5 := Lib.hid (HFR.out.trans hfr5 (fun i hi h => h))
      have HO5 := Lib.hid (HO.out.fr hfr5 HOB.out)
      have HS5 : Hid (wr.heap.size ≤ w5.heap.size) := hfr5.size
      clear hf5 hfr5
      rcases Nat.lt_or_ge n n1 with hgt | hle
      · have HL2 := Lib.hid (HLS.out (.inr (by rw [← HNN.out.1, ← HN1.out.1]; exact hgt)))
        go_wp2_with fail
        go_roundw
        all_goals go_light
        case rel => exact ⟨i + 1, fr, K5, n1, d1, acc, by omega, by omega, rfl, by go_num, rfl, rfl, HN1.out.1, HN1.out.2, by omega, HF5.out, HO5.out, by rw [← HL.out]; omega, by rw [HRS.out, HL2.out], FR5.out⟩
        case measure => simp [intOf]; omega
      · have hlit : ¬ IsLit zs win i := fun h => by
          have h1 := HNN.out.1
          have h2 := HN1.out.1
          unfold IsLit at h
          omega
        have hst := findS_step (lits := i - fr) (by rw [← HZ.out]; omega) hlit
        rw [← HNN.out.1, ← HNN.out.2] at hst
        have HST := Lib.hid hst
        have h40 := (not_lit hlit).1
        rw [← HNN.out.1] at h40
        have HSB : Hid (b < w5.heap.size ∧ g < w5.heap.size) := by have h1 := HBG.out; have h2 := HSZ.out; have h3 := HS5.out; exact ⟨by omega, by omega⟩
        have hrow : Hid ([((i - fr : Nat) : Int), (n : Int), (d : Int)] = [(i : Int) - (fr : Int), (n : Int), (d : Int)]) := by
          show _ = _
          rw [show ((i - fr : Nat) : Int) = (i : Int) - (fr : Int) by omega]
        have HW3 := Lib.hid (wf_three (a := i - fr) (b := n) (c := d) (by omega) (by omega) (by omega))
        clear hst hlit
        go_wp2_with (at_builtin; go_loud (refine wpList_rec (r := [(i : Int) - (fr : Int), (n : Int), (d : Int)]) rfl (.tmp 65) (.tmp 72) rfl elemQ (.slice oa L oc) rfl rfl HO5.out rfl (by rw [← hrow.out]; exact HW3.out) rfl (by rw [← HL.out]; omega) (by have := HSZ.out; have := HS5.out; omega) ?_); intro v7 w7 hown7 hfr7 hat7; have H7 := Lib.hid hown7; have F7 := Lib.hid hfr7; clear hown7 hfr7 hat7)
        have hf7 := HF5.out.fr F7.out HSB.out.1 HSB.out.2 (fun h => HOB.out b h (.inl rfl)) (fun h => HOB.out g h (.inr rfl)) (fun x n c hx hn h => by have h1 := HDV.out x n c hx hn; have h2 := (HO.out.lt _ h).1; omega)
        obtain ⟨n2, d2, hn2, hd2⟩ : ∃ n2 d2, n2 = (best zs win (i + n)).1 ∧ d2 = (best zs win (i + n)).2 := ⟨_, _, rfl, rfl⟩
        have hc2 := HBC.out w7 K5 (i + n) (i + n) hf7 (by omega) (by omega) (by omega)
        rw [← hn2, ← hd2] at hc2
        have HC2 := Lib.hid hc2
        have HN2 : Hid (n2 = (best zs win (i + n)).1 ∧ d2 = (best zs win (i + n)).2) := ⟨hn2, hd2⟩
        clear hc2 hn2 hd2 hf7
        go_wp2_with fail
        refine HC2.out.mono ?_
        rintro e w8 ⟨rfl, ⟨K8, hK8, hf8⟩, hfr8⟩
        have HF8 := Lib.hid hf8
        have FR8 := Lib.hid hfr8
        clear hf8 hfr8
        go_wp2_with fail
        go_roundw
        all_goals go_light
        case rel =>
          refine ⟨i + n, i + n, K8, n2, d2, acc ++ [[((i - fr : Nat) : Int), (n : Int), (d : Int)]], by omega, by omega, by go_num, by go_num, rfl, rfl, HN2.out.1, HN2.out.2, by omega, HF8.out, ?_, ?_, ?_, ?_⟩
          · rw [hrow.out]
            exact H7.out.fr FR8.out (fun j hj h => by have := (H7.out.lt j hj).1; have := HBG.out; omega)
          · rw [List.length_append, List.length_singleton, ← HL.out]; omega
          · rw [HRS.out, HST.out, List.append_assoc, Nat.sub_self]; rfl
          · exact (FR5.out.trans F7.out (fun i hi h => by have h1 := (HO.out.lt i h).1; have h2 := HS2.out; omega)).trans FR8.out (fun i hi h => h)
        case measure => simp [intOf]; omega
end Go.Proofs.Ytkckabfbngkkpaa
