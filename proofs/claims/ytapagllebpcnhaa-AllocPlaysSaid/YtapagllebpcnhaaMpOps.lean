/- The map of numbers: its small methods. -/
import Derived.Test.YtapagllebpcnhaaMp
namespace Go.Proofs.Ytapagllebpcnhaa
open Go.RowKit

theorem Mp.upd {D' : Nat} {R : Nat → Prop} {w w' : World} {b s L : Nat} {st st' : List Int} {rs rs' C C' : Nat} {v : Value} {q : List Int} {E : TypeId} {D : Nat} (h : Mp R w b s L st rs C v q E D)
    (hh : w'.heap[b]? = some (.cells #[.int .i64 L, .slice (some ⟨s, 0, none⟩) st.length st.length, v, .int .i64 (cnt st' 0), .int .i64 D', .int .i64 rs'] E (0, 0)))
    (ho : Own .u8 5 0 w' (.slice (some ⟨s, 0, none⟩) st.length st.length) st') (f : Fr (fun k => k = b ∨ k = s) w w') (hl : st'.length = st.length)
    (hv : ∀ i, i < st.length → 0 ≤ st'.getD i 0 ∧ st'.getD i 0 ≤ 2) (hf : ∀ i, i < st.length → st'.getD i 0 = 0 → st.getD i 0 = 0) (hr : rs' ≤ cnt st' 0) (hq : q.length + cnt st' 2 ≤ C') : Mp R w' b s L st' rs' C' v q E D' := by
  refine ⟨by rw [hl]; exact hh, by rw [hl]; exact ho, h.qown.fr f (fun k hk hs => ?_), h.sb, h.vb, h.vs, h.hq, fun y hy => by rw [hl]; exact h.sub y hy, fun i hi h0 => h.free i (by omega) (hf i (by omega) h0), fun i hi => hv i (by omega), hr, by rw [hl]; exact h.end_, hq, fun k hk => Nat.lt_of_lt_of_le (h.hR k hk) f.size, h.rb, h.rS, h.rv⟩
  rcases hs with rfl | rfl
  · exact h.vb hk
  · exact h.vs hk

/-- the cells of a map as facts for the walk -/
theorem Mp.cells {R : Nat → Prop} {w : World} {b s L : Nat} {st : List Int} {rs C : Nat} {v : Value} {q : List Int} {E : TypeId} {D : Nat} (h : Mp R w b s L st rs C v q E D) :
    w.cell? ⟨b, 0, none⟩ = some (.int .i64 L) ∧ w.cell? ⟨b, 1, none⟩ = some (.slice (some ⟨s, 0, none⟩) st.length st.length) ∧ w.cell? ⟨b, 2, none⟩ = some v ∧ w.cell? ⟨b, 3, none⟩ = some (.int .i64 (cnt st 0)) ∧
      w.cell? ⟨b, 4, none⟩ = some (.int .i64 D) ∧ w.cell? ⟨b, 5, none⟩ = some (.int .i64 rs) ∧ (∀ i, w.frozen? ⟨b, i, none⟩ = false) := by
  have d0 := cell_of_row w b 0 _ E (0, 0) h.heap
  have d1 := cell_of_row w b 1 _ E (0, 0) h.heap
  have d2 := cell_of_row w b 2 _ E (0, 0) h.heap
  have d3 := cell_of_row w b 3 _ E (0, 0) h.heap
  have d4 := cell_of_row w b 4 _ E (0, 0) h.heap
  have d5 := cell_of_row w b 5 _ E (0, 0) h.heap
  simp at d0 d1 d2 d3 d4 d5
  exact ⟨d0, d1, d2, d3, d4, d5, fun i => frozen_no h.heap i⟩
theorem Mp.notR {R : Nat → Prop} {w w' : World} {b s L : Nat} {st : List Int} {rs C : Nat} {v : Value} {q : List Int} {E : TypeId} {D : Nat} (h : Mp R w b s L st rs C v q E D) (f : Fr (fun k => k = b ∨ k = s) w w') : Fr (fun k => ¬ R k) w w' :=
  f.mono fun i _ hi hR => by
    rcases hi with rfl | rfl
    · exact h.rb hR
    · exact h.rS hR

set_option maxHeartbeats 1000000 in
theorem mapFree {R : Nat → Prop} {w : World} {b s L : Nat} {st : List Int} {rs C : Nat} (h : MpX R w b s L st rs C) :
    Calls Try.prog 12 #[.pointer (some ⟨b, 0, none⟩)] w fun e w' => e = .returned (.int .i64 ((cnt st 0 : Int) - (rs : Int))) ∧ Keeps w w' := by
  obtain ⟨v, q, E, h⟩ := h
  obtain ⟨_, _, _, d3, _, d5, _⟩ := h.cells
  have hr := h.rsb
  have hc := cnt_le st 0
  have he := h.end_
  have hc2 : cnt st 0 ≤ 65536 := by omega
  generalize cnt st 0 = c at *
  clear h he
  go_enter Try.func12, Try.ntmps12
  go_wp2_with fail
  go_quiet (fail)
  go_wp2_with fail
  go_ret
  exact ⟨rfl, (Fr.refl _ _).drewN _⟩

theorem mapDropped {R : Nat → Prop} {w : World} {b s L : Nat} {st : List Int} {rs C : Nat} (h : MpX R w b s L st rs C) :
    Calls Try.prog 19 #[.pointer (some ⟨b, 0, none⟩)] w fun e w' => e = .returned (.int .i64 (cnt st 2 : Nat)) ∧ w' = w := by
  obtain ⟨v, q, E, h⟩ := h
  obtain ⟨_, _, _, _, d4, _, _⟩ := h.cells
  generalize cnt st 2 = c at *
  clear h
  go_enter Try.func19, Try.ntmps19
  go_wp2_with fail
  go_ret
  exact ⟨rfl, rfl⟩

theorem mapRelease {R : Nat → Prop} {w : World} {b s L : Nat} {st : List Int} {rs C : Nat} (h : MpX R w b s L st rs C) :
    Calls Try.prog 11 #[.pointer (some ⟨b, 0, none⟩)] w fun e w' => e = .returned (.tuple #[]) ∧ MpX R w' b s L st 0 C ∧ Fr (fun k => ¬ R k) w w' := by
  obtain ⟨v, q, E, h⟩ := h
  obtain ⟨_, _, _, _, _, d5, fz⟩ := h.cells
  have f5 := fz 5
  have H := Lib.hid h
  clear h fz
  go_enter Try.func11, Try.ntmps11
  go_wp2_with fail
  go_end0
  go_light
  have f : Fr (fun k => k = b ∨ k = s) w (w.setCell ⟨b, 5, none⟩ (.int .i64 0)) := (Fr.refl _ w).setAt (.inl rfl) 5 _
  refine ⟨rfl, ⟨v, q, E, H.out.upd (by rw [heap_set H.out.heap]; rfl) (H.out.own.fr ((Fr.refl (fun k => k = b) w).setAt rfl 5 _) (fun k hk e => by cases hk; exact H.out.sb e)) f rfl H.out.val (fun _ _ h => h) (Nat.zero_le _) H.out.qb⟩, H.out.notR f⟩

/-- some set aside -/
def reserveS (st : List Int) (rs : Nat) (n : Int) : Bool × Nat := if 0 ≤ n ∧ n ≤ (cnt st 0 : Int) - (rs : Int) then (true, rs + n.toNat) else (false, rs)
set_option maxHeartbeats 1000000 in
theorem mapReserve {R : Nat → Prop} {w : World} {b s L : Nat} {st : List Int} {rs C : Nat} {n : Int} (h : MpX R w b s L st rs C) :
    Calls Try.prog 15 #[.pointer (some ⟨b, 0, none⟩), .int .i64 n] w fun e w' => e = .returned (.bool (reserveS st rs n).1) ∧ MpX R w' b s L st (reserveS st rs n).2 C ∧ Fr (fun k => ¬ R k) w w' := by
  have HX := Lib.hid h
  obtain ⟨v, q, E, h⟩ := h
  have hr := h.rsb
  have hc := cnt_le st 0
  have he := h.end_
  have hc2 : cnt st 0 ≤ 65536 := by omega
  obtain ⟨c, hcc⟩ : ∃ c, c = cnt st 0 := ⟨_, rfl⟩
  obtain ⟨r, hrr⟩ : ∃ r, r = reserveS st rs n := ⟨_, rfl⟩
  rw [← hrr]
  unfold reserveS at hrr
  rw [← hcc] at hr hc2 hrr
  have HRR := Lib.hid hrr
  have HCC := Lib.hid hcc
  clear h hc he hrr hcc
  have hor : n < 0 ∨ (0 ≤ n ∧ (c : Int) - (rs : Int) < n) ∨ (0 ≤ n ∧ n ≤ (c : Int) - (rs : Int)) := by omega
  rcases hor with g1 | ⟨g1, g2⟩ | ⟨g1, g2⟩
  · have e : Hid (r = (false, rs)) := by show _ = _; rw [HRR.out, if_neg (by omega)]
    go_enter Try.func15, Try.ntmps15
    go_wp2_with fail
    go_ret
    go_light
    exact ⟨by rw [e.out]; rfl, by rw [e.out]; exact HX.out, Fr.refl _ _⟩
  · have e : Hid (r = (false, rs)) := by show _ = _; rw [HRR.out, if_neg (by omega)]
    have hf := mapFree HX.out
    rw [← HCC.out] at hf
    have HF := Lib.hid hf
    clear hf
    go_enter Try.func15, Try.ntmps15
    go_wp2_with (go_at_call 12; refine HF.out.mono ?_; rintro e5 w5 ⟨rfl, k5⟩; have K5 := Lib.hid k5; clear k5)
    go_ret
    go_light
    exact ⟨by rw [e.out]; rfl, by rw [e.out]; exact HX.out.keeps K5.out, K5.out.fr⟩
  · have e : Hid (r = (true, rs + n.toNat)) := by show _ = _; rw [HRR.out, if_pos ⟨g1, g2⟩]
    have hf := mapFree HX.out
    rw [← HCC.out] at hf
    have HF := Lib.hid hf
    clear hf
    go_enter Try.func15, Try.ntmps15
    go_wp2_with (go_at_call 12; refine HF.out.mono ?_; rintro e5 w5 ⟨rfl, k5⟩; obtain ⟨v5, q5, E5, h5⟩ := HX.out.keeps k5; have H5 := Lib.hid h5; obtain ⟨_, _, _, _, _, d5, fz⟩ := h5.cells; have f5 := fz 5; have K5 := Lib.hid k5; clear k5 h5 fz)
    go_ret
    go_light
    have f : Fr (fun k => k = b ∨ k = s) w5 (w5.setCell ⟨b, 5, none⟩ (.int .i64 ((rs : Int) + n))) := (Fr.refl _ w5).setAt (.inl rfl) 5 _
    have hn : (rs : Int) + n = ((rs + n.toNat : Nat) : Int) := by omega
    refine ⟨by rw [e.out]; rfl, ?_, (K5.out.fr).trans (H5.out.notR f) (fun _ _ h => h)⟩
    rw [e.out]
    exact ⟨v5, q5, E5, H5.out.upd (by rw [heap_set H5.out.heap, hn]; rfl) (H5.out.own.fr ((Fr.refl (fun k => k = b) w5).setAt rfl 5 _) (fun k hk e => by cases hk; exact H5.out.sb e)) f rfl H5.out.val (fun _ _ h => h) (by show rs + n.toNat ≤ _; rw [← HCC.out]; omega) H5.out.qb⟩

set_option maxHeartbeats 1000000 in
theorem mapTaken {R : Nat → Prop} {w : World} {b s L : Nat} {st : List Int} {rs C : Nat} {n : Int} (h : MpX R w b s L st rs C) (hn : -9223372036854775808 ≤ n ∧ n ≤ 9223372036854775807) :
    Calls Try.prog 18 #[.pointer (some ⟨b, 0, none⟩), .int .i64 n] w fun e w' => e = .returned (.bool (isB L st n 1 || isB L st n 2)) ∧ Keeps w w' := by
  have HX := Lib.hid h
  have h1 := mapIs (x := 1) h hn
  have h2 : Hid (∀ w', Keeps w w' → Calls Try.prog 35 #[.pointer (some ⟨b, 0, none⟩), .int .i64 n, .int .u8 2] w' fun e w'' => e = .returned (.bool (isB L st n 2)) ∧ Keeps w' w'') := fun w' k => (mapIs (x := 2) (HX.out.keeps k) hn).mono fun e w'' ⟨h1, m, h2⟩ => ⟨h1, by rw [h2]; exact (Fr.refl _ _).drewN _⟩
  have H1 := Lib.hid h1
  clear h h1
  obtain ⟨x1, hx1⟩ : ∃ x, x = isB L st n 1 := ⟨_, rfl⟩
  obtain ⟨x2, hx2⟩ : ∃ x, x = isB L st n 2 := ⟨_, rfl⟩
  rw [← hx1] at H1 ⊢
  rw [← hx2] at h2 ⊢
  clear hx1 hx2
  cases x1
  · go_enter Try.func18, Try.ntmps18
    go_wp2_with fail
    refine H1.out.mono ?_
    rintro e w5 ⟨rfl, m5, h5⟩
    have K5 : Hid (Keeps w w5) := by show Keeps _ _; rw [h5]; exact (Fr.refl _ _).drewN _
    clear h5
    go_wp2_with (go_at_call 35; refine (h2.out _ K5.out).mono ?_; rintro e6 w6 ⟨rfl, k6⟩; have K6 := Lib.hid (K5.out.keeps k6); clear k6)
    go_ret
    go_light
    exact ⟨by simp, K6.out⟩
  · go_enter Try.func18, Try.ntmps18
    go_wp2_with fail
    refine H1.out.mono ?_
    rintro e w5 ⟨rfl, m5, h5⟩
    have K5 : Hid (Keeps w w5) := by show Keeps _ _; rw [h5]; exact (Fr.refl _ _).drewN _
    clear h5
    go_wp2_with fail
    go_ret
    go_light
    exact ⟨by simp, K5.out⟩
end Go.Proofs.Ytapagllebpcnhaa
