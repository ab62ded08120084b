/- The reference's map: its methods that write. -/
import Derived.Test.YtapagllebpcnhaaRf
namespace Go.Proofs.Ytapagllebpcnhaa
open Go.RowKit

theorem Rf.put {w w' : World} {b l L : Nat} {st st' : List Int} {rs rs' : Nat} (h : Rf w b l L st rs) (hh : ∃ E, w'.heap[b]? = some (.cells #[.int .i64 L, .slice (some ⟨l, 0, none⟩) st.length st.length, .int .i64 rs'] E (0, 0)))
    (ho : Own .i64 3 0 w' (.slice (some ⟨l, 0, none⟩) st.length st.length) st') (hl : st'.length = st.length) (hv : ∀ i, i < st.length → 0 ≤ st'.getD i 0 ∧ st'.getD i 0 ≤ 2) (hr : rs' ≤ cnt st' 0) : Rf w' b l L st' rs' :=
  ⟨by rw [hl]; exact hh, by rw [hl]; exact ho, h.lb, fun i hi => hv i (by omega), hr, by rw [hl]; exact h.end_⟩
/-- one state stored -/
theorem Rf.store {w : World} {b l L : Nat} {st : List Int} {rs : Nat} (h : Rf w b l L st rs) {k : Nat} {y : Int} (hk : k < st.length) (hy : 0 ≤ y ∧ y ≤ 2) (hr : rs ≤ cnt (st.set k y) 0) : Rf (w.setCell ⟨l, k, none⟩ (.int .i64 y)) b l L (st.set k y) rs := by
  obtain ⟨E, hE⟩ := h.heap
  exact h.put ⟨E, ((Fr.refl (fun k => k = l) w).setAt rfl k _).heap (fun e => h.lb e.symm) hE⟩ (h.own.set k (by simp [Lit.wf, IntKind.min, IntKind.max, IntKind.signed, IntKind.bits]; omega)) (by simp) (val_set hk h.val hy) hr

set_option maxRecDepth 100000 in
set_option maxHeartbeats 1000000 in
theorem refMark {w : World} {b l L : Nat} {st : List Int} {rs : Nat} {n : Int} (h : Rf w b l L st rs) (hn : -9223372036854775808 ≤ n ∧ n ≤ 9223372036854775807) :
    Calls Try.prog 31 #[.pointer (some ⟨b, 0, none⟩), .int .i64 n] w fun e w' => e = .returned (.bool (markS L st rs n).1) ∧ Rf w' b l L (markS L st rs n).2 rs ∧ Fr (fun k => k = b ∨ k = l) w w' := by
  have H := Lib.hid h
  have h0 := refState h hn
  have H0 := Lib.hid h0
  have hf : Hid (∀ w', Keeps w w' → Calls Try.prog 21 #[.pointer (some ⟨b, 0, none⟩)] w' fun e w'' => e = .returned (.int .i64 ((cnt st 0 : Int) - (rs : Int))) ∧ Keeps w' w'') := fun w' k => refFree (H.out.keeps k)
  obtain ⟨r, hr⟩ : ∃ r, r = markS L st rs n := ⟨_, rfl⟩
  rw [← hr]
  have HR := Lib.hid hr
  have hrs := h.rsb
  have hcl : cnt st 0 ≤ 65536 := by have := cnt_le st 0; have := h.end_; omega
  obtain ⟨c, hcc⟩ : ∃ c, c = cnt st 0 := ⟨_, rfl⟩
  rw [← hcc] at hf hrs hcl
  have HCC := Lib.hid hcc
  have his := stateS_isB (L := L) (st := st) (n := n) (x := 0) (by omega)
  clear h h0 hr hcc
  by_cases hi : stateS L st n = 0
  · have hb := his.1 hi
    rw [hi] at H0
    obtain ⟨k, rfl, hk, hs⟩ := isB_true hb
    have HSK := Lib.hid hs
    by_cases hfr : 1 ≤ (c : Int) - (rs : Int)
    · have e : Hid (r = (true, st.set k 1)) := by
        show _ = _
        rw [HR.out, markS, if_pos ⟨hb, by rw [← HCC.out]; exact hfr⟩, show ((L : Int) + (k : Int) - (L : Int)).toNat = k by omega]
      clear hi his hb hs
      go_enter Try.func31, Try.ntmps31
      go_wp2_with fail
      refine H0.out.mono ?_
      rintro e5 w5 ⟨rfl, k5⟩
      have K5 := Lib.hid k5
      clear k5
      go_wp2_with (go_at_call 21; refine (hf.out _ K5.out).mono ?_; rintro e6 w6 ⟨rfl, k6⟩; have h6 := H.out.keeps (K5.out.keeps k6); have K6 := Lib.hid (K5.out.keeps k6); have H6 := Lib.hid h6; obtain ⟨d0, d1, _, _⟩ := h6.cells; obtain ⟨ck, fk⟩ := h6.own.at (i := k) hk; clear k6 h6)
      have t1 : (0 : Int) ≤ (L : Int) + (k : Int) - (L : Int) := by omega
      have t2 : (L : Int) + (k : Int) - (L : Int) < (st.length : Int) := by omega
      obtain ⟨y, hy⟩ : ∃ y, y = st.getD k 0 := ⟨_, rfl⟩
      rw [← hy] at ck
      clear hy
      go_region
      go_wp2_with fail
      go_ret
      go_light
      have hc0 := cnt_set 0 1 st k hk
      rw [HSK.out] at hc0
      simp at hc0
      have hcc := HCC.out
      refine ⟨by rw [e.out]; rfl, ?_, ((Keeps.fr K6.out).setAt (.inr rfl) k _).drew⟩
      rw [e.out]
      exact (H6.out.store hk (by omega) (by omega)).keeps ((Fr.refl _ _).drew)
    · have e : Hid (r = (false, st)) := by
        show _ = _
        rw [HR.out, markS, if_neg (by rw [← HCC.out]; exact fun h => hfr h.2)]
      clear hi his hb hs
      go_enter Try.func31, Try.ntmps31
      go_wp2_with fail
      refine H0.out.mono ?_
      rintro e5 w5 ⟨rfl, k5⟩
      have K5 := Lib.hid k5
      clear k5
      go_wp2_with (go_at_call 21; refine (hf.out _ K5.out).mono ?_; rintro e6 w6 ⟨rfl, k6⟩; have K6 := Lib.hid (K5.out.keeps k6); clear k6)
      go_ret
      go_light
      exact ⟨by rw [e.out]; rfl, by rw [e.out]; exact H.out.keeps K6.out, Keeps.fr K6.out⟩
  · have e : Hid (r = (false, st)) := by
      show _ = _
      rw [HR.out, markS, if_neg (fun h => hi (his.2 h.1))]
    generalize stateS L st n = x at *
    have hxb : (x != 0) = true := by simpa using hi
    clear hi his
    go_enter Try.func31, Try.ntmps31
    go_wp2_with fail
    refine H0.out.mono ?_
    rintro e5 w5 ⟨rfl, k5⟩
    have K5 := Lib.hid k5
    clear k5
    go_wp2_with fail
    go_ret
    go_light
    exact ⟨by rw [e.out]; rfl, by rw [e.out]; exact H.out.keeps K5.out, Keeps.fr K5.out⟩
end Go.Proofs.Ytapagllebpcnhaa
