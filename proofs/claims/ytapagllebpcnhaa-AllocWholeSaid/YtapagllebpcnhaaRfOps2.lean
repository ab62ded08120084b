/- The reference's map: Back, Drop, Settle, Take, Reserve, Taken, New. -/
import Derived.Test.YtapagllebpcnhaaRfOps
namespace Go.Proofs.Ytapagllebpcnhaa
open Go.RowKit

set_option maxRecDepth 100000 in
set_option maxHeartbeats 1000000 in
theorem refBack {w : World} {b l L : Nat} {st : List Int} {rs : Nat} {n : Int} (h : Rf w b l L st rs) (hn : -9223372036854775808 ≤ n ∧ n ≤ 9223372036854775807) :
    Calls Try.prog 29 #[.pointer (some ⟨b, 0, none⟩), .int .i64 n] w fun e w' => e = .returned (.bool (freeS L st n).1) ∧ Rf w' b l L (freeS L st n).2 rs ∧ Fr (fun k => k = b ∨ k = l) w w' := by
  have H := Lib.hid h
  have h0 := refState h hn
  have H0 := Lib.hid h0
  obtain ⟨r, hr⟩ : ∃ r, r = freeS L st n := ⟨_, rfl⟩
  rw [← hr]
  have HR := Lib.hid hr
  have hrs := h.rsb
  have his := stateS_isB (L := L) (st := st) (n := n) (x := 1) (by omega)
  clear h h0 hr
  by_cases hi : stateS L st n = 1
  · have hb := his.1 hi
    rw [hi] at H0
    obtain ⟨k, rfl, hk, hs⟩ := isB_true hb
    have HSK := Lib.hid hs
    have e : Hid (r = (true, st.set k 0)) := by
      show _ = _
      rw [HR.out, freeS, if_pos hb, show ((L : Int) + (k : Int) - (L : Int)).toNat = k by omega]
    clear hi his hb hs
    go_enter Try.func29, Try.ntmps29
    go_wp2_with fail
    refine H0.out.mono ?_
    rintro e5 w5 ⟨rfl, k5⟩
    have h6 := H.out.keeps k5
    have K6 := Lib.hid k5
    have H6 := Lib.hid h6
    obtain ⟨d0, d1, _, _⟩ := h6.cells
    obtain ⟨ck, fk⟩ := h6.own.at (i := k) hk
    have t1 : (0 : Int) ≤ (L : Int) + (k : Int) - (L : Int) := by omega
    have t2 : (L : Int) + (k : Int) - (L : Int) < (st.length : Int) := by omega
    obtain ⟨y, hy⟩ : ∃ y, y = st.getD k 0 := ⟨_, rfl⟩
    rw [← hy] at ck
    clear hy k5 h6
    go_wp2_with fail
    go_region
    go_wp2_with fail
    go_ret
    go_light
    have hc0 := cnt_set 0 0 st k hk
    rw [HSK.out] at hc0
    simp at hc0
    refine ⟨by rw [e.out]; rfl, ?_, ((Keeps.fr K6.out).setAt (.inr rfl) k _).drew⟩
    rw [e.out]
    exact (H6.out.store hk (by omega) (by omega)).keeps ((Fr.refl _ _).drew)
  · have e : Hid (r = (false, st)) := by
      show _ = _
      rw [HR.out, freeS, if_neg (fun h => hi (his.2 h))]
    generalize stateS L st n = x at *
    have hxb : (x != 1) = true := by simpa using hi
    clear hi his
    go_enter Try.func29, Try.ntmps29
    go_wp2_with fail
    refine H0.out.mono ?_
    rintro e5 w5 ⟨rfl, k5⟩
    have K5 := Lib.hid k5
    clear k5
    go_wp2_with fail
    go_ret
    go_light
    exact ⟨by rw [e.out]; rfl, by rw [e.out]; exact H.out.keeps K5.out, Keeps.fr K5.out⟩

set_option maxRecDepth 100000 in
set_option maxHeartbeats 1000000 in
theorem refDrop {w : World} {b l L : Nat} {st : List Int} {rs : Nat} {n : Int} (h : Rf w b l L st rs) (hn : -9223372036854775808 ≤ n ∧ n ≤ 9223372036854775807) :
    Calls Try.prog 32 #[.pointer (some ⟨b, 0, none⟩), .int .i64 n] w fun e w' => e = .returned (.bool (dropS L st n).1) ∧ Rf w' b l L (dropS L st n).2 rs ∧ Fr (fun k => k = b ∨ k = l) w w' := by
  have H := Lib.hid h
  have h0 := refState h hn
  have H0 := Lib.hid h0
  obtain ⟨r, hr⟩ : ∃ r, r = dropS L st n := ⟨_, rfl⟩
  rw [← hr]
  have HR := Lib.hid hr
  have hrs := h.rsb
  have his := stateS_isB (L := L) (st := st) (n := n) (x := 1) (by omega)
  clear h h0 hr
  by_cases hi : stateS L st n = 1
  · have hb := his.1 hi
    rw [hi] at H0
    obtain ⟨k, rfl, hk, hs⟩ := isB_true hb
    have HSK := Lib.hid hs
    have e : Hid (r = (true, st.set k 2)) := by
      show _ = _
      rw [HR.out, dropS, if_pos hb, show ((L : Int) + (k : Int) - (L : Int)).toNat = k by omega]
    clear hi his hb hs
    go_enter Try.func32, Try.ntmps32
    go_wp2_with fail
    refine H0.out.mono ?_
    rintro e5 w5 ⟨rfl, k5⟩
    have h6 := H.out.keeps k5
    have K6 := Lib.hid k5
    have H6 := Lib.hid h6
    obtain ⟨d0, d1, _, _⟩ := h6.cells
    obtain ⟨ck, fk⟩ := h6.own.at (i := k) hk
    have t1 : (0 : Int) ≤ (L : Int) + (k : Int) - (L : Int) := by omega
    have t2 : (L : Int) + (k : Int) - (L : Int) < (st.length : Int) := by omega
    obtain ⟨y, hy⟩ : ∃ y, y = st.getD k 0 := ⟨_, rfl⟩
    rw [← hy] at ck
    clear hy k5 h6
    go_wp2_with fail
    go_region
    go_wp2_with fail
    go_ret
    go_light
    have hc0 := cnt_set 0 2 st k hk
    rw [HSK.out] at hc0
    simp at hc0
    refine ⟨by rw [e.out]; rfl, ?_, ((Keeps.fr K6.out).setAt (.inr rfl) k _).drew⟩
    rw [e.out]
    exact (H6.out.store hk (by omega) (by omega)).keeps ((Fr.refl _ _).drew)
  · have e : Hid (r = (false, st)) := by
      show _ = _
      rw [HR.out, dropS, if_neg (fun h => hi (his.2 h))]
    generalize stateS L st n = x at *
    have hxb : (x != 1) = true := by simpa using hi
    clear hi his
    go_enter Try.func32, Try.ntmps32
    go_wp2_with fail
    refine H0.out.mono ?_
    rintro e5 w5 ⟨rfl, k5⟩
    have K5 := Lib.hid k5
    clear k5
    go_wp2_with fail
    go_ret
    go_light
    exact ⟨by rw [e.out]; rfl, by rw [e.out]; exact H.out.keeps K5.out, Keeps.fr K5.out⟩

theorem cnt_settleK (st : List Int) (k : Nat) (hk : k ≤ st.length) : cnt st 0 ≤ cnt (settleK st k) 0 := by
  induction k with
  | zero => exact Nat.le_refl _
  | succ k ih =>
    have h1 := ih (by omega)
    simp only [settleK]
    split
    case isTrue h2 =>
      have := cnt_set 0 0 (settleK st k) k (by rw [settleK_length]; omega)
      rw [h2] at this
      simp at this
      omega
    case isFalse => exact h1

set_option maxRecDepth 100000 in
set_option maxHeartbeats 1000000 in
theorem refSettle {w : World} {b l L : Nat} {st : List Int} {rs : Nat} (h : Rf w b l L st rs) :
    Calls Try.prog 33 #[.pointer (some ⟨b, 0, none⟩)] w fun e w' => e = .returned (.tuple #[]) ∧ Rf w' b l L (settleS st) rs ∧ Fr (fun k => k = b ∨ k = l) w w' := by
  have H := Lib.hid h
  have he := h.end_
  obtain ⟨N, hN⟩ : ∃ N, N = st.length := ⟨_, rfl⟩
  rw [← hN] at he
  have HN := Lib.hid hN
  clear h hN
  go_enter Try.func33, Try.ntmps33
  go_wp2_with fail
  go_loopw [2] (fun iv wr => ∃ (k : Nat), k ≤ N ∧ iv = .int .i64 k ∧ Rf wr b l L (settleK st k) rs ∧ Fr (fun k => k = b ∨ k = l) w wr) (fun iv _ => N - (intOf iv).toNat)
  case atStart => exact ⟨0, by omega, rfl, H.out, Fr.refl _ _⟩
  case round =>
    obtain ⟨k, hk, rfl, hm, hf⟩ := hrel
    have HM := Lib.hid hm
    have HF := Lib.hid hf
    have hln := settleK_length st k
    obtain ⟨_, d1, _, _⟩ := hm.cells
    rw [hln, ← HN.out] at d1
    by_cases hlt : k < N
    case neg =>
      have e : Hid (settleK st k = settleS st) := by show _ = _; rw [show k = N by omega, HN.out]; rfl
      clear hm hf hln
      go_wp2_with fail
      go_end0
      go_light
      exact ⟨rfl, by rw [← e.out]; exact HM.out, HF.out⟩
    case pos =>
      obtain ⟨ck, fk⟩ := hm.own.at (i := k) (by rw [hln, ← HN.out]; exact hlt)
      have HNX : Hid (settleK st (k + 1) = if (settleK st k).getD k 0 = 2 then (settleK st k).set k 0 else settleK st k) := rfl
      obtain ⟨y, hy⟩ : ∃ y, y = (settleK st k).getD k 0 := ⟨_, rfl⟩
      rw [← hy] at ck HNX
      have HY := Lib.hid hy
      have HLN := Lib.hid hln
      clear hm hf hy hln
      by_cases h2 : y = 2
      · have e : Hid (settleK st (k + 1) = (settleK st k).set k 0) := by show _ = _; rw [HNX.out, if_pos h2]
        subst h2
        go_wp2_with fail
        go_roundw
        all_goals go_light
        case rel =>
          have hr := HM.out.rsb
          have hc := cnt_set 0 0 (settleK st k) k (by rw [HLN.out, ← HN.out]; exact hlt)
          rw [← HY.out] at hc
          simp at hc
          exact ⟨k + 1, by omega, by go_num, by rw [e.out]; exact HM.out.store (by rw [HLN.out, ← HN.out]; exact hlt) (by omega) (by omega), HF.out.setAt (.inr rfl) k _⟩
        case measure => simp [intOf]; omega
      · have e : Hid (settleK st (k + 1) = settleK st k) := by show _ = _; rw [HNX.out, if_neg h2]
        have hyb : (y == 2) = false := by simpa using h2
        clear h2
        go_wp2_with fail
        go_roundw
        all_goals go_light
        case rel => exact ⟨k + 1, by omega, by go_num, by rw [e.out]; exact HM.out, HF.out⟩
        case measure => simp [intOf]; omega

set_option maxRecDepth 100000 in
set_option maxHeartbeats 1000000 in
theorem refTake {w : World} {b l L : Nat} {st : List Int} {rs : Nat} (h : Rf w b l L st rs) :
    Calls Try.prog 27 #[.pointer (some ⟨b, 0, none⟩)] w fun e w' => e = .returned (.tuple #[.int .i64 ((takeA L st rs).1 : Nat), .bool (takeA L st rs).2.1]) ∧ Rf w' b l L (takeA L st rs).2.2.1 (takeA L st rs).2.2.2 ∧ Fr (fun k => k = b ∨ k = l) w w' := by
  have H := Lib.hid h
  obtain ⟨d0, d1, d2, fz⟩ := h.cells
  have f2 := fz 2
  have he := h.end_
  have hrs := h.rsb
  have hcl := cnt_le st 0
  obtain ⟨N, hN⟩ : ∃ N, N = st.length := ⟨_, rfl⟩
  rw [← hN] at he d1 hcl
  have HN := Lib.hid hN
  obtain ⟨r, hr⟩ : ∃ r, r = takeA L st rs := ⟨_, rfl⟩
  rw [← hr]
  have HR := Lib.hid hr
  have hlb := h.lb
  have hbl := fun e => h.lb (Eq.symm e)
  have hrs2 : rs ≤ 65536 := by omega
  clear h hN hr fz hrs hcl
  go_enter Try.func27, Try.ntmps27
  go_wp2_with fail
  go_loopw [4] (fun iv wr => ∃ (k : Nat), k ≤ N ∧ iv = .int .i64 k ∧ (∀ i, i < k → st.getD i 0 ≠ 0) ∧ wr = w) (fun iv _ => N - (intOf iv).toNat)
  case atStart => exact ⟨0, by omega, rfl, fun i hi => by omega, rfl⟩
  case round =>
    obtain ⟨k, hk, rfl, hz, rfl⟩ := hrel
    have HZ := Lib.hid hz
    clear hz
    by_cases hlt : k < N
    case neg =>
      have e : Hid (r = (0, false, st, rs)) := by
        show _ = _
        rw [HR.out, takeA, ffree_no (fun i hi => HZ.out i (by rw [← HN.out] at hi; omega))]
      go_wp2_with fail
      go_ret2
      go_light
      exact ⟨by rw [e.out]; rfl, by rw [e.out]; exact H.out, Fr.refl _ _⟩
    case pos =>
      obtain ⟨ck, fk⟩ := H.out.own.at (i := k) (by rw [← HN.out]; exact hlt)
      obtain ⟨y, hy⟩ : ∃ y, y = st.getD k 0 := ⟨_, rfl⟩
      rw [← hy] at ck
      have HY := Lib.hid hy
      clear hy
      by_cases h0 : y = 0
      · subst h0
        have hff : ffree st = some k := ffree_eq (by rw [← HN.out]; exact hlt) HY.out.symm HZ.out
        have e : Hid (r = (L + k, true, st.set k 1, rs - 1)) := by show _ = _; rw [HR.out, takeA, hff]
        have hc0 := cnt_set 0 1 st k (by rw [← HN.out]; exact hlt)
        rw [← HY.out] at hc0
        simp at hc0
        have HC0 := Lib.hid hc0
        have HCP : Hid (rs ≤ cnt st 0) := H.out.rsb
        clear hff hc0
        have hor : rs ≤ 0 ∨ 0 < rs := by omega
        rcases hor with hr0 | hr0
        · go_wp2_with fail
          go_ret2
          go_light
          refine ⟨by rw [e.out]; rfl, ?_, (Fr.refl (fun k => k = b ∨ k = l) _).setAt (.inr rfl) k _⟩
          rw [e.out, show rs - 1 = rs by omega]
          exact H.out.store (by rw [← HN.out]; exact hlt) (by omega) (by omega)
        · go_wp2_with fail
          go_ret2
          go_light
          refine ⟨by rw [e.out]; rfl, ?_, ((Fr.refl (fun k => k = b ∨ k = l) _).setAt (.inr rfl) k _).setAt (.inl rfl) 2 _⟩
          rw [e.out]
          have hcc := HC0.out
          have hcp := HCP.out
          obtain ⟨E, hE⟩ := H.out.heap
          have h1 := ((Fr.refl (fun k => k = l) wr).setAt rfl k (.int .i64 1)).heap (fun e => H.out.lb e.symm) hE
          have h2 := heap_set h1 2 (.int .i64 ((rs : Int) - 1))
          exact H.out.put ⟨E, by rw [h2, show (rs : Int) - 1 = ((rs - 1 : Nat) : Int) by omega]; rfl⟩ ((H.out.own.set k (by decide)).fr ((Fr.refl (fun k => k = b) _).setAt rfl 2 _) (fun x hx e => by have hx2 : l = x := Option.some.inj hx; exact H.out.lb (hx2.trans e))) (by simp) (val_set (by rw [← HN.out]; exact hlt) H.out.val (by omega)) (by show rs - 1 ≤ cnt (st.set k 1) 0; omega)
      · have hyb : (y == 0) = false := by simpa using h0
        have HY0 := Lib.hid h0
        clear h0
        go_wp2_with fail
        go_roundw
        all_goals go_light
        case rel =>
          refine ⟨k + 1, by omega, by go_num, fun i hi => ?_, by first | rfl | trivial⟩
          by_cases he : i = k
          · rw [he, ← HY.out]; exact HY0.out
          · exact HZ.out i (by omega)
        case measure => simp [intOf]; omega
end Go.Proofs.Ytapagllebpcnhaa
