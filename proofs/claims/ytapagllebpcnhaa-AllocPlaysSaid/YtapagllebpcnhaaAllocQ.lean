/- The reading methods' contracts, with the number of draws. -/
import Derived.Test.YtapagllebpcnhaaAllocStart
namespace Go.Proofs.Ytapagllebpcnhaa
open Go.RowKit

set_option maxRecDepth 100000 in
set_option maxHeartbeats 1000000 in
theorem mapFreeQ {R : Nat → Prop} {w : World} {b s L : Nat} {st : List Int} {rs C : Nat} (h : MpX R w b s L st rs C) :
    Calls Try.prog 12 #[.pointer (some ⟨b, 0, none⟩)] w fun e w' => e = .returned (.int .i64 ((cnt st 0 : Int) - (rs : Int))) ∧ ∃ m, w' = w.drewN m := by
  obtain ⟨v, q, E, h⟩ := h
  obtain ⟨_, _, _, d3, _, d5, _⟩ := h.cells
  have hr := h.rsb
  have hc := cnt_le st 0
  have he := h.end_
  have hc2 : cnt st 0 ≤ 65536 := by omega
  generalize cnt st 0 = c at *
  clear h he
  go_enter Try.func12, Try.ntmps12
  go_wp2_with fail
  go_quiet (fail)
  go_wp2_with fail
  go_ret
  exact ⟨rfl, _, rfl⟩

set_option maxRecDepth 100000 in
set_option maxHeartbeats 1000000 in
theorem refFreeQ {w : World} {b l L : Nat} {st : List Int} {rs : Nat} (h : Rf w b l L st rs) :
    Calls Try.prog 21 #[.pointer (some ⟨b, 0, none⟩)] w fun e w' => e = .returned (.int .i64 ((cnt st 0 : Int) - (rs : Int))) ∧ ∃ m, w' = w.drewN m := by
  have H := Lib.hid h
  obtain ⟨_, _, d2, _⟩ := h.cells
  have hr := h.rsb
  have hc := cnt_le st 0
  have he := h.end_
  have hc2 : cnt st 0 ≤ 65536 := by omega
  have hcc : Hid (∀ n, Calls Try.prog 22 #[.pointer (some ⟨b, 0, none⟩), .int .i64 0] (w.drewN n) fun e w' => e = .returned (.int .i64 (cnt st 0 : Nat)) ∧ w' = w.drewN n) := fun n => refCount (H.out.keeps ((Fr.refl _ _).drewN n))
  obtain ⟨c, hce⟩ : ∃ c, c = cnt st 0 := ⟨_, rfl⟩
  rw [← hce] at hr hc2 hcc ⊢
  clear h he hc hce
  go_enter Try.func21, Try.ntmps21
  go_wp2_with fail
  go_quiet (first | (go_at_call 22; go_loud (exact Calls.quiet_of_same (hcc.out _))))
  go_wp2_with fail
  go_ret
  exact ⟨rfl, _, rfl⟩

set_option maxRecDepth 100000 in
set_option maxHeartbeats 1000000 in
theorem refStateQ {w : World} {b l L : Nat} {st : List Int} {rs : Nat} {n : Int} (h : Rf w b l L st rs) (hn : -9223372036854775808 ≤ n ∧ n ≤ 9223372036854775807) :
    Calls Try.prog 38 #[.pointer (some ⟨b, 0, none⟩), .int .i64 n] w fun e w' => e = .returned (.int .i64 (stateS L st n)) ∧ ∃ m, w' = w.drewN m := by
  have H := Lib.hid h
  obtain ⟨d0, d1, _⟩ := h.cells
  have he := h.end_
  obtain ⟨N, hN⟩ : ∃ N, N = st.length := ⟨_, rfl⟩
  rw [← hN] at d1 he
  have HN := Lib.hid hN
  obtain ⟨r, hr⟩ : ∃ r, r = stateS L st n := ⟨_, rfl⟩
  rw [← hr]
  have HR := Lib.hid hr
  clear h hN hr
  have hor : n < L ∨ (L ≤ n ∧ (L : Int) + N ≤ n) ∨ (L ≤ n ∧ n < (L : Int) + N) := by omega
  rcases hor with h1 | ⟨h1, h2⟩ | ⟨h1, h2⟩
  · have e : Hid (r = -1) := by show _ = _; rw [HR.out, stateS, if_neg (by omega)]
    go_enter Try.func38, Try.ntmps38
    go_wp2_with fail
    go_quiet (fail)
    go_wp2_with fail
    go_ret
    exact ⟨by rw [e.out]; rfl, _, rfl⟩
  · have e : Hid (r = -1) := by show _ = _; rw [HR.out, stateS, if_neg (by rw [← HN.out]; omega)]
    have t1 : decide (n < (L : Int)) = false := by simp; omega
    go_enter Try.func38, Try.ntmps38
    go_wp2_with fail
    go_quiet (fail)
    go_wp2_with fail
    go_ret
    exact ⟨by rw [e.out]; rfl, _, rfl⟩
  · obtain ⟨k, rfl⟩ : ∃ k : Nat, n = (L : Int) + (k : Int) := ⟨(n - L).toNat, by omega⟩
    have hk : k < N := by omega
    obtain ⟨hcell, _⟩ := H.out.own.at (i := k) (by rw [← HN.out]; exact hk)
    have e : Hid (r = st.getD k 0) := by
      show _ = _
      rw [HR.out, stateS, if_pos (by rw [← HN.out]; omega), show ((L : Int) + (k : Int) - (L : Int)).toNat = k by omega]
    obtain ⟨y, hy⟩ : ∃ y, y = st.getD k 0 := ⟨_, rfl⟩
    rw [← hy] at hcell e
    have t1 : decide ((L : Int) + (k : Int) < (L : Int)) = false := by simp; omega
    have t2 : decide ((L : Int) + (N : Int) ≤ (L : Int) + (k : Int)) = false := by simp; omega
    have t3 : (0 : Int) ≤ (L : Int) + (k : Int) - (L : Int) := by omega
    have t4 : (L : Int) + (k : Int) - (L : Int) < (N : Int) := by omega
    clear hy h1 h2
    go_enter Try.func38, Try.ntmps38
    go_wp2_with fail
    go_quiet (fail)
    go_wp2_with fail
    go_quiet (fail)
    go_wp2_with fail
    go_ret
    exact ⟨by rw [e.out]; rfl, _, World.drewN_drewN _ _ _⟩

set_option maxRecDepth 100000 in
set_option maxHeartbeats 1000000 in
theorem mapTakenQ {R : Nat → Prop} {w : World} {b s L : Nat} {st : List Int} {rs C : Nat} {n : Int} (h : MpX R w b s L st rs C) (hn : -9223372036854775808 ≤ n ∧ n ≤ 9223372036854775807) :
    Calls Try.prog 18 #[.pointer (some ⟨b, 0, none⟩), .int .i64 n] w fun e w' => e = .returned (.bool (isB L st n 1 || isB L st n 2)) ∧ ∃ m, w' = w.drewN m := by
  have HX := Lib.hid h
  have h1 := mapIs (x := 1) h hn
  have h2 : Hid (∀ n', Calls Try.prog 35 #[.pointer (some ⟨b, 0, none⟩), .int .i64 n, .int .u8 2] (w.drewN n') fun e w'' => e = .returned (.bool (isB L st n 2)) ∧ ∃ m, w'' = (w.drewN n').drewN m) := fun n' => mapIs (x := 2) (HX.out.keeps ((Fr.refl _ _).drewN n')) hn
  have H1 := Lib.hid h1
  clear h h1
  obtain ⟨x1, hx1⟩ : ∃ x, x = isB L st n 1 := ⟨_, rfl⟩
  obtain ⟨x2, hx2⟩ : ∃ x, x = isB L st n 2 := ⟨_, rfl⟩
  rw [← hx1] at H1 ⊢
  rw [← hx2] at h2 ⊢
  clear hx1 hx2
  cases x1
  · go_enter Try.func18, Try.ntmps18
    go_wp2_with fail
    refine H1.out.mono ?_
    rintro e w5 ⟨rfl, m5, h5⟩
    rw [h5]
    clear h5
    go_wp2_with (go_at_call 35; refine (h2.out _).mono ?_; rintro e6 w6 ⟨rfl, m6, h6⟩; rw [h6, World.drewN_drewN]; clear h6)
    go_ret
    go_light
    exact ⟨by simp, _, rfl⟩
  · go_enter Try.func18, Try.ntmps18
    go_wp2_with fail
    refine H1.out.mono ?_
    rintro e w5 ⟨rfl, m5, h5⟩
    rw [h5]
    clear h5
    go_wp2_with fail
    go_ret
    go_light
    exact ⟨by simp, m5, rfl⟩

set_option maxRecDepth 100000 in
set_option maxHeartbeats 1000000 in
theorem refTakenQ {w : World} {b l L : Nat} {st : List Int} {rs : Nat} {n : Int} (h : Rf w b l L st rs) (hn : -9223372036854775808 ≤ n ∧ n ≤ 9223372036854775807) :
    Calls Try.prog 23 #[.pointer (some ⟨b, 0, none⟩), .int .i64 n] w fun e w' => e = .returned (.bool (isB L st n 1 || isB L st n 2)) ∧ ∃ m, w' = w.drewN m := by
  have h0 := refStateQ h hn
  have H0 := Lib.hid h0
  have hb : (isB L st n 1 || isB L st n 2) = decide (0 < stateS L st n) := by
    have h1 := stateS_isB (L := L) (st := st) (n := n) (x := 1) (by omega)
    have h2 := stateS_isB (L := L) (st := st) (n := n) (x := 2) (by omega)
    have h3 : stateS L st n ≤ 2 := by
      unfold stateS
      split
      · exact (h.val _ (by omega)).2
      · omega
    by_cases hp : 0 < stateS L st n
    · rw [decide_eq_true hp]
      rcases (show stateS L st n = 1 ∨ stateS L st n = 2 by omega) with h4 | h4
      · rw [h1.1 h4]; rfl
      · rw [h2.1 h4]; simp
    · rw [decide_eq_false hp]
      have g1 : isB L st n 1 = false := by
        rw [Bool.eq_false_iff]; intro h; have := h1.2 h; omega
      have g2 : isB L st n 2 = false := by
        rw [Bool.eq_false_iff]; intro h; have := h2.2 h; omega
      rw [g1, g2]; rfl
  rw [hb]
  clear h h0 hb
  generalize stateS L st n = x at *
  go_enter Try.func23, Try.ntmps23
  go_wp2_with fail
  refine H0.out.mono ?_
  rintro e5 w5 ⟨rfl, m5, h5⟩
  rw [h5]
  clear h5
  go_wp2_with fail
  go_ret
  exact ⟨rfl, m5, rfl⟩
end Go.Proofs.Ytapagllebpcnhaa
