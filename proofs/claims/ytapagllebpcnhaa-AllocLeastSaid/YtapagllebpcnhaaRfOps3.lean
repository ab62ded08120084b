/- The reference's map: Reserve, Taken, New; pick; the document's examples. -/
import Derived.Test.YtapagllebpcnhaaRfOps2
namespace Go.Proofs.Ytapagllebpcnhaa
open Go.RowKit

set_option maxHeartbeats 1000000 in
theorem refReserve {w : World} {b l L : Nat} {st : List Int} {rs : Nat} {n : Int} (h : Rf w b l L st rs) :
    Calls Try.prog 34 #[.pointer (some ⟨b, 0, none⟩), .int .i64 n] w fun e w' => e = .returned (.bool (reserveS st rs n).1) ∧ Rf w' b l L st (reserveS st rs n).2 ∧ Fr (fun k => k = b ∨ k = l) w w' := by
  have HX := Lib.hid h
  have hr := h.rsb
  have hc := cnt_le st 0
  have he := h.end_
  have hc2 : cnt st 0 ≤ 65536 := by omega
  obtain ⟨c, hcc⟩ : ∃ c, c = cnt st 0 := ⟨_, rfl⟩
  obtain ⟨r, hrr⟩ : ∃ r, r = reserveS st rs n := ⟨_, rfl⟩
  rw [← hrr]
  unfold reserveS at hrr
  rw [← hcc] at hr hc2 hrr
  have HRR := Lib.hid hrr
  have HCC := Lib.hid hcc
  clear h hc he hrr hcc
  have hor : n < 0 ∨ (0 ≤ n ∧ (c : Int) - (rs : Int) < n) ∨ (0 ≤ n ∧ n ≤ (c : Int) - (rs : Int)) := by omega
  rcases hor with g1 | ⟨g1, g2⟩ | ⟨g1, g2⟩
  · have e : Hid (r = (false, rs)) := by show _ = _; rw [HRR.out, if_neg (by omega)]
    go_enter Try.func34, Try.ntmps34
    go_wp2_with fail
    go_ret
    go_light
    exact ⟨by rw [e.out]; rfl, by rw [e.out]; exact HX.out, Fr.refl _ _⟩
  · have e : Hid (r = (false, rs)) := by show _ = _; rw [HRR.out, if_neg (by omega)]
    have hf := refFree HX.out
    rw [← HCC.out] at hf
    have HF := Lib.hid hf
    clear hf
    go_enter Try.func34, Try.ntmps34
    go_wp2_with (go_at_call 21; refine HF.out.mono ?_; rintro e5 w5 ⟨rfl, k5⟩; have K5 := Lib.hid k5; clear k5)
    go_ret
    go_light
    exact ⟨by rw [e.out]; rfl, by rw [e.out]; exact HX.out.keeps K5.out, Keeps.fr K5.out⟩
  · have e : Hid (r = (true, rs + n.toNat)) := by show _ = _; rw [HRR.out, if_pos ⟨g1, g2⟩]
    have hf := refFree HX.out
    rw [← HCC.out] at hf
    have HF := Lib.hid hf
    clear hf
    go_enter Try.func34, Try.ntmps34
    go_wp2_with (go_at_call 21; refine HF.out.mono ?_; rintro e5 w5 ⟨rfl, k5⟩; have h5 := HX.out.keeps k5; have H5 := Lib.hid h5; obtain ⟨_, _, d2, fz⟩ := h5.cells; have f2 := fz 2; have K5 := Lib.hid k5; clear k5 h5 fz)
    go_ret
    go_light
    refine ⟨by rw [e.out]; rfl, ?_, (Keeps.fr K5.out).setAt (.inl rfl) 2 _⟩
    rw [e.out]
    obtain ⟨E, hE⟩ := H5.out.heap
    exact H5.out.put ⟨E, by rw [heap_set hE, show (rs : Int) + n = ((rs + n.toNat : Nat) : Int) by omega]; rfl⟩ (H5.out.own.fr ((Fr.refl (fun k => k = b) w5).setAt rfl 2 _) (fun x hx e => by have hx2 : l = x := Option.some.inj hx; exact H5.out.lb (hx2.trans e))) rfl H5.out.val (by show rs + n.toNat ≤ cnt st 0; rw [← HCC.out]; omega)

theorem refTaken {w : World} {b l L : Nat} {st : List Int} {rs : Nat} {n : Int} (h : Rf w b l L st rs) (hn : -9223372036854775808 ≤ n ∧ n ≤ 9223372036854775807) :
    Calls Try.prog 23 #[.pointer (some ⟨b, 0, none⟩), .int .i64 n] w fun e w' => e = .returned (.bool (isB L st n 1 || isB L st n 2)) ∧ Keeps w w' := by
  have h0 := refState h hn
  have H0 := Lib.hid h0
  have hb : (isB L st n 1 || isB L st n 2) = decide (0 < stateS L st n) := by
    have h1 := stateS_isB (L := L) (st := st) (n := n) (x := 1) (by omega)
    have h2 := stateS_isB (L := L) (st := st) (n := n) (x := 2) (by omega)
    have h3 : stateS L st n ≤ 2 := by
      unfold stateS
      split
      · exact (h.val _ (by omega)).2
      · omega
    by_cases hp : 0 < stateS L st n
    · rw [decide_eq_true hp]
      rcases (show stateS L st n = 1 ∨ stateS L st n = 2 by omega) with h4 | h4
      · rw [h1.1 h4]; rfl
      · rw [h2.1 h4]; simp
    · rw [decide_eq_false hp]
      have g1 : isB L st n 1 = false := by
        rw [Bool.eq_false_iff]; intro h; have := h1.2 h; omega
      have g2 : isB L st n 2 = false := by
        rw [Bool.eq_false_iff]; intro h; have := h2.2 h; omega
      rw [g1, g2]; rfl
  rw [hb]
  clear h h0 hb
  generalize stateS L st n = x at *
  go_enter Try.func23, Try.ntmps23
  go_wp2_with fail
  refine H0.out.mono ?_
  rintro e5 w5 ⟨rfl, k5⟩
  have K5 := Lib.hid k5
  clear k5
  go_wp2_with fail
  go_ret
  exact ⟨rfl, K5.out⟩

theorem refNewNo {w : World} {l e : Int} (h : l < 0 ∨ 65536 < e ∨ e < l) :
    Calls Try.prog 9 #[.int .i64 l, .int .i64 e] w fun e w' => e = .returned (.tuple #[.pointer none, .int .i64 1]) ∧ w' = w := by
  have hor : l < 0 ∨ (0 ≤ l ∧ 65536 < e) ∨ (0 ≤ l ∧ e ≤ 65536 ∧ e < l) := by omega
  clear h
  rcases hor with h | ⟨h1, h2⟩ | ⟨h1, h2, h3⟩
  all_goals
    go_enter Try.func9, Try.ntmps9
    go_wp2_with fail
    go_ret2
    exact ⟨rfl, rfl⟩

set_option maxHeartbeats 1000000 in
theorem refNew {w : World} {L N : Nat} (h : L + N ≤ 65536) :
    Calls Try.prog 9 #[.int .i64 L, .int .i64 ((L : Int) + (N : Int))] w fun e w' => ∃ b l, e = .returned (.tuple #[.pointer (some ⟨b, 0, none⟩), .int .i64 0]) ∧ (w.heap.size ≤ b ∧ b < w'.heap.size ∧ w.heap.size ≤ l ∧ l < w'.heap.size) ∧ Rf w' b l L (List.replicate N 0) 0 ∧ Keeps w w' := by
  have hmk0 := run_make_row' (P := Try.prog) 23 3 (.int .i64 0) 8 Try.underlying23 infoInt rfl .i64 .i64 N (by omega) (by omega)
  have hmk : ∀ w : World, (Instr.makeSlice 23 (.int .i64 ((L : Int) + (N : Int) - (L : Int))) (.int .i64 ((L : Int) + (N : Int) - (L : Int)))).run Try.prog w = .ok (.slice (some ⟨w.heap.size, 0, none⟩) N N) (w.alloc (.cells (madeCells #[.int .i64 0] N) 3)) := by
    rw [show (L : Int) + (N : Int) - (L : Int) = (N : Int) by omega]; exact hmk0
  clear hmk0
  go_enter Try.func9, Try.ntmps9
  go_wp2_with fail
  go_ret2
  go_light
  have hb := heap_alloc_new (w.alloc (.cells (madeCells #[.int .i64 0] N) 3)) (.cells #[.int .i64 L, .slice (some ⟨w.heap.size, 0, none⟩) N N, .int .i64 0] 55)
  rw [World.size_alloc] at hb
  refine ⟨w.heap.size + 1, w.heap.size, rfl, by simp; omega, ?_, ((Fr.refl _ _).alloc _).alloc _⟩
  exact ⟨⟨_, by rw [List.length_replicate]; exact hb⟩, by rw [List.length_replicate]; exact (own_made (by omega) (by decide)).keeps ((Fr.refl _ _).alloc _), by omega, fun i hi => by rw [List.length_replicate] at hi; simp [List.getD_eq_getElem?_getD, hi], Nat.zero_le _, by rw [List.length_replicate]; exact h⟩

/-- one of n -/
def pickS (c : Int) (n : Int) : Int := if c < 0 then (-(c + 1)) % n else c % n
theorem pickOf {w : World} {c n : Int} (hc : -9223372036854775808 ≤ c ∧ c ≤ 9223372036854775807) (hn : 0 < n) (hn2 : n ≤ 1000000000) :
    Calls Try.prog 14 #[.int .i64 c, .int .i64 n] w fun e w' => e = .returned (.int .i64 (pickS c n)) ∧ w' = w := by
  by_cases h : c < 0
  · go_enter Try.func14, Try.ntmps14
    go_wp2_with fail
    go_ret
    refine ⟨?_, rfl⟩
    have e : pickS c n = -(c + 1).tmod n := by
      rw [pickS, if_pos h, ← Int.neg_tmod, Int.tmod_eq_emod_of_nonneg (by omega)]
    rw [e]; rfl
  · go_enter Try.func14, Try.ntmps14
    go_wp2_with fail
    go_ret
    refine ⟨?_, rfl⟩
    rw [pickS, if_neg (by omega)]; rfl
theorem pickS_lt (c : Int) {n : Int} (hn : 0 < n) : 0 ≤ pickS c n ∧ pickS c n < n := by
  unfold pickS
  split
  · exact ⟨Int.emod_nonneg _ (by omega), Int.emod_lt_of_pos _ hn⟩
  · exact ⟨Int.emod_nonneg _ (by omega), Int.emod_lt_of_pos _ hn⟩

set_option maxRecDepth 100000 in
set_option maxHeartbeats 2000000 in
theorem livesAlloc (w : World) : Calls Try.prog 13 #[] w fun e w' => e = .returned (.bool true) ∧ Keeps w w' := by
  have hR : ∀ k, (fun k => k < w.heap.size) k → k < w.heap.size := fun k h => h
  have hnew := mapNew (w := w) (L := 50) (N := 4) (by omega) hR
  have HNEW := Lib.hid hnew
  clear hnew hR
  go_enter Try.func13, Try.ntmps13
  go_wp2_with fail
  refine HNEW.out.mono ?_
  rintro e w1 ⟨b, rfl, ⟨s, h1⟩, k1⟩
  have H1 := Lib.hid h1
  have K1 := Lib.hid k1
  clear h1 k1
  have e1 : takeA 50 (List.replicate 4 0) 0 = (50, true, [1, 0, 0, 0], 0) := by decide
  have e2 : takeA 50 [1, 0, 0, 0] 0 = (51, true, [1, 1, 0, 0], 0) := by decide
  have E1 := Lib.hid e1
  have E2 := Lib.hid e2
  clear e1 e2
  go_wp2_with fail
  have ht := mapTake H1.out (by omega)
  rw [E1.out] at ht
  refine ht.mono ?_
  rintro e w2 ⟨rfl, h2, f2⟩
  have H2 : Hid (MpX (fun k => k < w.heap.size) w2 b s 50 [1, 0, 0, 0] 0 4) := h2
  have F2 := Lib.hid f2
  clear h2 f2 ht
  go_wp2_with fail
  have ht := mapTake H2.out (by omega)
  rw [E2.out] at ht
  refine ht.mono ?_
  rintro e w3 ⟨rfl, h3, f3⟩
  have H3 : Hid (MpX (fun k => k < w.heap.size) w3 b s 50 [1, 1, 0, 0] 0 4) := h3
  have F3 : Hid (Fr (fun k => ¬ k < w.heap.size) w1 w3) := F2.out.trans f3 (fun _ _ h => h)
  clear h3 f3 ht
  have hf := mapFree H3.out
  rw [show ((cnt [1, 1, 0, 0] 0 : Int) - ((0 : Nat) : Int)) = 2 by decide] at hf
  have HF := Lib.hid hf
  clear hf
  go_wp2_with (first
    | (go_at_call 12; refine HF.out.mono ?_; rintro e4 w4 ⟨rfl, k4⟩; have H4 := Lib.hid (H3.out.keeps k4); have F4 : Hid (Fr (fun k => ¬ k < w.heap.size) w1 w4) := F3.out.keeps k4; clear k4)
    | (go_at_call 30; refine (mapDrop H4.out (by omega)).mono ?_; rw [show dropS 50 [1, 1, 0, 0] 50 = (true, [2, 1, 0, 0]) by decide]; rintro e5 w5 ⟨rfl, h5, f5⟩; have H5 := Lib.hid h5; have F5 := Lib.hid (F4.out.trans f5 (fun _ _ h => h)); clear h5 f5)
    | (go_at_call 19; have hd := mapDropped H5.out; rw [show (cnt [2, 1, 0, 0] 2 : Nat) = 1 by decide] at hd; refine hd.mono ?_; rintro e6 w6 ⟨rfl, hw6⟩; rw [hw6]; clear hw6 hd)
    | (go_at_call 18; have hd := mapTaken (n := 50) H5.out (by omega); rw [show (isB 50 [2, 1, 0, 0] 50 1 || isB 50 [2, 1, 0, 0] 50 2) = true by decide] at hd; refine hd.mono ?_; rintro e7 w7 ⟨rfl, k7⟩; have K7 := Lib.hid k7; clear k7 hd))
  go_ret
  go_light
  exact ⟨rfl, (K1.out.trans F5.out (fun i hi h => h hi)).keeps K7.out⟩
end Go.Proofs.Ytapagllebpcnhaa
