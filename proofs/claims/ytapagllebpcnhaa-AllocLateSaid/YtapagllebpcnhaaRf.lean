/- The reference's map. -/
import Derived.Test.YtapagllebpcnhaaMpNew
namespace Go.Proofs.Ytapagllebpcnhaa
open Go.RowKit

/-- The reference's map at block b, its states at block l. -/
structure Rf (w : World) (b l L : Nat) (st : List Int) (rs : Nat) : Prop where
  heap : ∃ E, w.heap[b]? = some (.cells #[.int .i64 L, .slice (some ⟨l, 0, none⟩) st.length st.length, .int .i64 rs] E (0, 0))
  own : Own .i64 3 0 w (.slice (some ⟨l, 0, none⟩) st.length st.length) st
  lb : l ≠ b
  val : ∀ i, i < st.length → 0 ≤ st.getD i 0 ∧ st.getD i 0 ≤ 2
  rsb : rs ≤ cnt st 0
  end_ : L + st.length ≤ 65536

theorem Rf.fr {S : Nat → Prop} {w w' : World} {b l L : Nat} {st : List Int} {rs : Nat} (h : Rf w b l L st rs) (f : Fr S w w') (hb : ¬ S b) (hl : ¬ S l) : Rf w' b l L st rs := by
  obtain ⟨E, hE⟩ := h.heap
  exact ⟨⟨E, f.heap hb hE⟩, h.own.fr f (fun k hk e => by have hx : l = k := Option.some.inj hk; rw [← hx] at e; exact hl e), h.lb, h.val, h.rsb, h.end_⟩
theorem Rf.keeps {w w' : World} {b l L : Nat} {st : List Int} {rs : Nat} (h : Rf w b l L st rs) (f : Keeps w w') : Rf w' b l L st rs := h.fr f (fun h => h) (fun h => h)
theorem Rf.cells {w : World} {b l L : Nat} {st : List Int} {rs : Nat} (h : Rf w b l L st rs) :
    w.cell? ⟨b, 0, none⟩ = some (.int .i64 L) ∧ w.cell? ⟨b, 1, none⟩ = some (.slice (some ⟨l, 0, none⟩) st.length st.length) ∧ w.cell? ⟨b, 2, none⟩ = some (.int .i64 rs) ∧ (∀ i, w.frozen? ⟨b, i, none⟩ = false) := by
  obtain ⟨E, hE⟩ := h.heap
  have d0 := cell_of_row w b 0 _ E (0, 0) hE
  have d1 := cell_of_row w b 1 _ E (0, 0) hE
  have d2 := cell_of_row w b 2 _ E (0, 0) hE
  simp at d0 d1 d2
  exact ⟨d0, d1, d2, fun i => frozen_no hE i⟩

theorem cnt_take (st : List Int) (s : Int) {i : Nat} (h : i < st.length) : cnt (st.take (i + 1)) s = cnt (st.take i) s + (if st.getD i 0 = s then 1 else 0) := by
  unfold cnt
  rw [List.take_add_one, List.getElem?_eq_getElem h, List.filter_append, List.length_append, List.getD_eq_getElem?_getD, List.getElem?_eq_getElem h]
  simp only [Option.toList_some, Option.getD_some]
  by_cases hs : st[i] = s
  · simp [hs]
  · simp [hs]

set_option maxRecDepth 100000 in
set_option maxHeartbeats 1000000 in
theorem refCount {w : World} {b l L : Nat} {st : List Int} {rs : Nat} {s : Int} (h : Rf w b l L st rs) :
    Calls Try.prog 22 #[.pointer (some ⟨b, 0, none⟩), .int .i64 s] w fun e w' => e = .returned (.int .i64 (cnt st s : Nat)) ∧ w' = w := by
  have H := Lib.hid h
  obtain ⟨_, d1, _⟩ := h.cells
  have he := h.end_
  obtain ⟨N, hN⟩ : ∃ N, N = st.length := ⟨_, rfl⟩
  rw [← hN] at d1 he
  have HN := Lib.hid hN
  obtain ⟨c, hc⟩ : ∃ c, c = cnt st s := ⟨_, rfl⟩
  rw [← hc]
  have HC := Lib.hid hc
  clear h hN hc
  go_enter Try.func22, Try.ntmps22
  go_wp2_with fail
  go_loopw [5, 6] (fun nv iv wr => ∃ (k n : Nat), k ≤ N ∧ n ≤ k ∧ iv = .int .i64 k ∧ nv = .int .i64 n ∧ n = cnt (st.take k) s ∧ wr = w) (fun _ iv _ => N - (intOf iv).toNat)
  case atStart => exact ⟨0, 0, by omega, by omega, rfl, rfl, rfl, rfl⟩
  case round =>
    obtain ⟨k, n, hk, hnk, rfl, rfl, hn, rfl⟩ := hrel
    have HNN := Lib.hid hn
    clear hn
    by_cases hlt : k < N
    case neg =>
      have e : Hid (n = c) := by show _ = _; rw [HNN.out, HC.out, List.take_of_length_le (by rw [← HN.out]; omega)]
      go_wp2_with fail
      go_ret
      go_light
      exact ⟨by rw [e.out]; rfl, rfl⟩
    case pos =>
      obtain ⟨ck, _⟩ := H.out.own.at (i := k) (by rw [← HN.out]; exact hlt)
      have hct := cnt_take st s (i := k) (by rw [← HN.out]; exact hlt)
      rw [← HNN.out] at hct
      have HCT := Lib.hid hct
      clear hct
      generalize st.getD k 0 = y at *
      by_cases hy : y = s
      · subst hy
        go_wp2_with fail
        go_roundw
        all_goals go_light
        case rel => exact ⟨k + 1, n + 1, by omega, by omega, by go_num, by go_num, by rw [HCT.out, if_pos rfl], trivial⟩
        case measure => simp [intOf]; omega
      · have hyb : (y == s) = false := by simpa using hy
        have HY := Lib.hid hy
        clear hy
        go_wp2_with fail
        go_roundw
        all_goals go_light
        case rel => exact ⟨k + 1, n, by omega, by omega, by go_num, rfl, by rw [HCT.out, if_neg HY.out, Nat.add_zero], trivial⟩
        case measure => simp [intOf]; omega

/-- a number's state; below 0: there is no such number -/
def stateS (L : Nat) (st : List Int) (n : Int) : Int := if (L : Int) ≤ n ∧ n - L < st.length then st.getD (n - L).toNat 0 else -1
theorem stateS_isB {L : Nat} {st : List Int} {n x : Int} (hx : 0 ≤ x) : stateS L st n = x ↔ isB L st n x = true := by
  unfold stateS isB
  rw [decide_eq_true_eq]
  split
  · constructor
    · intro h; exact ⟨by omega, by omega, h⟩
    · intro h; exact h.2.2
  · constructor
    · intro h; omega
    · intro h; omega

set_option maxRecDepth 100000 in
set_option maxHeartbeats 1000000 in
theorem refState {w : World} {b l L : Nat} {st : List Int} {rs : Nat} {n : Int} (h : Rf w b l L st rs) (hn : -9223372036854775808 ≤ n ∧ n ≤ 9223372036854775807) :
    Calls Try.prog 38 #[.pointer (some ⟨b, 0, none⟩), .int .i64 n] w fun e w' => e = .returned (.int .i64 (stateS L st n)) ∧ Keeps w w' := by
  have H := Lib.hid h
  obtain ⟨d0, d1, _⟩ := h.cells
  have he := h.end_
  obtain ⟨N, hN⟩ : ∃ N, N = st.length := ⟨_, rfl⟩
  rw [← hN] at d1 he
  have HN := Lib.hid hN
  obtain ⟨r, hr⟩ : ∃ r, r = stateS L st n := ⟨_, rfl⟩
  rw [← hr]
  have HR := Lib.hid hr
  clear h hN hr
  have hor : n < L ∨ (L ≤ n ∧ (L : Int) + N ≤ n) ∨ (L ≤ n ∧ n < (L : Int) + N) := by omega
  rcases hor with h1 | ⟨h1, h2⟩ | ⟨h1, h2⟩
  · have e : Hid (r = -1) := by show _ = _; rw [HR.out, stateS, if_neg (by omega)]
    go_enter Try.func38, Try.ntmps38
    go_wp2_with fail
    go_quiet (fail)
    go_wp2_with fail
    go_ret
    exact ⟨by rw [e.out]; rfl, (Fr.refl _ _).drewN _⟩
  · have e : Hid (r = -1) := by show _ = _; rw [HR.out, stateS, if_neg (by rw [← HN.out]; omega)]
    have t1 : decide (n < (L : Int)) = false := by simp; omega
    go_enter Try.func38, Try.ntmps38
    go_wp2_with fail
    go_quiet (fail)
    go_wp2_with fail
    go_ret
    exact ⟨by rw [e.out]; rfl, (Fr.refl _ _).drewN _⟩
  · obtain ⟨k, rfl⟩ : ∃ k : Nat, n = (L : Int) + (k : Int) := ⟨(n - L).toNat, by omega⟩
    have hk : k < N := by omega
    obtain ⟨hcell, _⟩ := H.out.own.at (i := k) (by rw [← HN.out]; exact hk)
    have e : Hid (r = st.getD k 0) := by
      show _ = _
      rw [HR.out, stateS, if_pos (by rw [← HN.out]; omega), show ((L : Int) + (k : Int) - (L : Int)).toNat = k by omega]
    obtain ⟨y, hy⟩ : ∃ y, y = st.getD k 0 := ⟨_, rfl⟩
    rw [← hy] at hcell e
    have t1 : decide ((L : Int) + (k : Int) < (L : Int)) = false := by simp; omega
    have t2 : decide ((L : Int) + (N : Int) ≤ (L : Int) + (k : Int)) = false := by simp; omega
    have t3 : (0 : Int) ≤ (L : Int) + (k : Int) - (L : Int) := by omega
    have t4 : (L : Int) + (k : Int) - (L : Int) < (N : Int) := by omega
    clear hy h1 h2
    go_enter Try.func38, Try.ntmps38
    go_wp2_with fail
    go_quiet (fail)
    go_wp2_with fail
    go_quiet (fail)
    go_wp2_with fail
    go_ret
    exact ⟨by rw [e.out]; rfl, ((Fr.refl _ _).drewN _).drewN _⟩

set_option maxHeartbeats 1000000 in
theorem refFree {w : World} {b l L : Nat} {st : List Int} {rs : Nat} (h : Rf w b l L st rs) :
    Calls Try.prog 21 #[.pointer (some ⟨b, 0, none⟩)] w fun e w' => e = .returned (.int .i64 ((cnt st 0 : Int) - (rs : Int))) ∧ Keeps w w' := by
  have H := Lib.hid h
  obtain ⟨_, _, d2, _⟩ := h.cells
  have hr := h.rsb
  have hc := cnt_le st 0
  have he := h.end_
  have hc2 : cnt st 0 ≤ 65536 := by omega
  have hcc : Hid (∀ n, Calls Try.prog 22 #[.pointer (some ⟨b, 0, none⟩), .int .i64 0] (w.drewN n) fun e w' => e = .returned (.int .i64 (cnt st 0 : Nat)) ∧ w' = w.drewN n) := fun n => refCount (H.out.keeps ((Fr.refl _ _).drewN n))
  obtain ⟨c, hce⟩ : ∃ c, c = cnt st 0 := ⟨_, rfl⟩
  rw [← hce] at hr hc2 hcc ⊢
  clear h he hc hce
  go_enter Try.func21, Try.ntmps21
  go_wp2_with fail
  go_quiet (first | (go_at_call 22; go_loud (exact Calls.quiet_of_same (hcc.out _))))
  go_wp2_with fail
  go_ret
  exact ⟨rfl, (Fr.refl _ _).drewN _⟩
end Go.Proofs.Ytapagllebpcnhaa
