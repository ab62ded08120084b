/- The map of numbers: a number's state turned. -/
import Derived.Test.YtapagllebpcnhaaMpOps
namespace Go.Proofs.Ytapagllebpcnhaa
open Go.RowKit

theorem isB_true {L : Nat} {st : List Int} {n x : Int} (h : isB L st n x = true) : ∃ k : Nat, n = (L : Int) + (k : Int) ∧ k < st.length ∧ st.getD k 0 = x := by
  have := of_decide_eq_true h
  refine ⟨(n - L).toNat, by omega, by omega, this.2.2⟩

/-- taken, if it is free, and one is free that is not set aside -/
def markS (L : Nat) (st : List Int) (rs : Nat) (n : Int) : Bool × List Int := if isB L st n 0 = true ∧ 1 ≤ (cnt st 0 : Int) - (rs : Int) then (true, st.set (n - L).toNat 1) else (false, st)
/-- given back, if it is taken -/
def dropS (L : Nat) (st : List Int) (n : Int) : Bool × List Int := if isB L st n 1 = true then (true, st.set (n - L).toNat 2) else (false, st)
/-- free, if it is taken -/
def freeS (L : Nat) (st : List Int) (n : Int) : Bool × List Int := if isB L st n 1 = true then (true, st.set (n - L).toNat 0) else (false, st)

theorem val_set {st : List Int} {k : Nat} {y : Int} (hk : k < st.length) (h : ∀ i, i < st.length → 0 ≤ st.getD i 0 ∧ st.getD i 0 ≤ 2) (hy : 0 ≤ y ∧ y ≤ 2) : ∀ i, i < st.length → 0 ≤ (st.set k y).getD i 0 ∧ (st.set k y).getD i 0 ≤ 2 := by
  intro i hi
  rw [set_get st k y i hk]
  split
  · exact hy
  · exact h i hi

/-- one state stored, and one cell of the map -/
theorem Mp.two {R : Nat → Prop} {w : World} {b s L : Nat} {st : List Int} {rs C : Nat} {v : Value} {q : List Int} {E : TypeId} {D : Nat} (h : Mp R w b s L st rs C v q E D) {k : Nat} {y : Int} (hy : (Lit.int .u8 y).wf = true) (j : Nat) (u : Value) :
    ((w.setCell ⟨s, k, none⟩ (.int .u8 y)).setCell ⟨b, j, none⟩ u).drew.heap[b]? = some (.cells (#[.int .i64 L, .slice (some ⟨s, 0, none⟩) st.length st.length, v, .int .i64 (cnt st 0), .int .i64 D, .int .i64 rs].setIfInBounds j u) E (0, 0)) ∧
      Own .u8 5 0 ((w.setCell ⟨s, k, none⟩ (.int .u8 y)).setCell ⟨b, j, none⟩ u).drew (.slice (some ⟨s, 0, none⟩) st.length st.length) (st.set k y) ∧ Fr (fun k => k = b ∨ k = s) w ((w.setCell ⟨s, k, none⟩ (.int .u8 y)).setCell ⟨b, j, none⟩ u).drew := by
  have f1 : Fr (fun k => k = s) w (w.setCell ⟨s, k, none⟩ (.int .u8 y)) := (Fr.refl (fun k => k = s) w).setAt rfl k _
  refine ⟨?_, ?_, ?_⟩
  · exact heap_set (f1.heap (fun e => h.sb e.symm) h.heap) j u
  · exact ((h.own.set k hy).fr ((Fr.refl (fun k => k = b) _).setAt rfl j u) (fun x hx e => by cases hx; exact h.sb e)).keeps ((Fr.refl _ _).drew)
  · exact (((Fr.refl (fun k => k = b ∨ k = s) w).setAt (.inr rfl) k _).setAt (.inl rfl) j u).drew

set_option maxRecDepth 100000 in
set_option maxHeartbeats 1000000 in
theorem mapMark {R : Nat → Prop} {w : World} {b s L : Nat} {st : List Int} {rs C : Nat} {n : Int} (h : MpX R w b s L st rs C) (hn : -9223372036854775808 ≤ n ∧ n ≤ 9223372036854775807) :
    Calls Try.prog 16 #[.pointer (some ⟨b, 0, none⟩), .int .i64 n] w fun e w' => e = .returned (.bool (markS L st rs n).1) ∧ MpX R w' b s L (markS L st rs n).2 rs C ∧ Fr (fun k => ¬ R k) w w' := by
  have HX := Lib.hid h
  have h0 := mapIs (x := 0) h hn
  have H0 := Lib.hid h0
  obtain ⟨r, hr⟩ : ∃ r, r = markS L st rs n := ⟨_, rfl⟩
  rw [← hr]
  have HR := Lib.hid hr
  clear h h0 hr
  by_cases hi : isB L st n 0 = true
  · rw [hi] at H0
    obtain ⟨k, rfl, hk, hs⟩ := isB_true hi
    have hf : Hid (∀ w', Keeps w w' → Calls Try.prog 12 #[.pointer (some ⟨b, 0, none⟩)] w' fun e w'' => e = .returned (.int .i64 ((cnt st 0 : Int) - (rs : Int))) ∧ Keeps w' w'') := fun w' k => mapFree (HX.out.keeps k)
    obtain ⟨c, hcc⟩ : ∃ c, c = cnt st 0 := ⟨_, rfl⟩
    rw [← hcc] at hf
    have HCC := Lib.hid hcc
    have HSK := Lib.hid hs
    have hrs : rs ≤ c := by
      obtain ⟨_, _, _, hx⟩ := HX.out
      rw [hcc]; exact hx.rsb
    have hcl : c ≤ 65536 := by
      obtain ⟨_, _, _, hx⟩ := HX.out
      have h1 := hx.end_
      have h2 := cnt_le st 0
      omega
    clear hcc hs
    by_cases hfr : 1 ≤ (c : Int) - (rs : Int)
    · have e : Hid (r = (true, st.set k 1)) := by
        show _ = _
        rw [HR.out, markS, if_pos ⟨hi, by rw [← HCC.out]; exact hfr⟩, show ((L : Int) + (k : Int) - (L : Int)).toNat = k by omega]
      clear hi
      go_enter Try.func16, Try.ntmps16
      go_wp2_with fail
      refine H0.out.mono ?_
      rintro e5 w5 ⟨rfl, m5, h5⟩
      have K5 : Hid (Keeps w w5) := by show Keeps _ _; rw [h5]; exact (Fr.refl _ _).drewN _
      clear h5
      go_wp2_with (go_at_call 12; refine (hf.out _ K5.out).mono ?_; rintro e6 w6 ⟨rfl, k6⟩; obtain ⟨v6, q6, E6, h6⟩ := HX.out.keeps (K5.out.keeps k6); have K6 := Lib.hid (K5.out.keeps k6); have H6 := Lib.hid h6; obtain ⟨d0, d1, _, d3, _, _, fz⟩ := h6.cells; have f3 := fz 3; obtain ⟨ck, fk⟩ := h6.own.at (i := k) hk; have hsb := h6.sb; have hbs := fun e => h6.sb (Eq.symm e); rw [← HCC.out] at d3; have he6 := h6.end_; clear k6 h6 fz)
      have t1 : (0 : Int) ≤ (L : Int) + (k : Int) - (L : Int) := by omega
      have t2 : (L : Int) + (k : Int) - (L : Int) < (st.length : Int) := by omega
      obtain ⟨y, hy⟩ : ∃ y, y = st.getD k 0 := ⟨_, rfl⟩
      rw [← hy] at ck
      clear hy
      go_region
      go_wp2_with fail
      go_ret
      go_light
      obtain ⟨g1, g2, g3⟩ := H6.out.two (k := k) (y := 1) (by decide) 3 (.int .i64 ((c : Int) - 1))
      have hc0 := cnt_set 0 1 st k hk
      have hc2 := cnt_set 2 1 st k hk
      rw [HSK.out] at hc0 hc2
      simp at hc0 hc2
      have hcc := HCC.out
      refine ⟨by rw [e.out]; rfl, ?_, (Keeps.fr K6.out).trans (H6.out.notR g3) (fun _ _ h => h)⟩
      rw [e.out]
      exact ⟨v6, q6, E6, H6.out.upd (by rw [g1, show (c : Int) - 1 = ((cnt (st.set k 1) 0 : Nat) : Int) by omega, hc2]; rfl) g2 g3 (by simp) (val_set hk H6.out.val (by omega)) (fun i hi h0 => by
        rw [set_get st k 1 i hk] at h0
        split at h0
        · omega
        · exact h0) (by show rs ≤ cnt (st.set k 1) 0; omega) (by have := H6.out.qb; show q6.length + cnt (st.set k 1) 2 ≤ C; omega)⟩
    · have e : Hid (r = (false, st)) := by
        show _ = _
        rw [HR.out, markS, if_neg (by rw [← HCC.out]; exact fun h => hfr h.2)]
      clear hi
      go_enter Try.func16, Try.ntmps16
      go_wp2_with fail
      refine H0.out.mono ?_
      rintro e5 w5 ⟨rfl, m5, h5⟩
      have K5 : Hid (Keeps w w5) := by show Keeps _ _; rw [h5]; exact (Fr.refl _ _).drewN _
      clear h5
      go_wp2_with (go_at_call 12; refine (hf.out _ K5.out).mono ?_; rintro e6 w6 ⟨rfl, k6⟩; have K6 := Lib.hid (K5.out.keeps k6); clear k6)
      go_ret
      go_light
      exact ⟨by rw [e.out]; rfl, by rw [e.out]; exact HX.out.keeps K6.out, Keeps.fr K6.out⟩
  · have e : Hid (r = (false, st)) := by
      show _ = _
      rw [HR.out, markS, if_neg (fun h => hi h.1)]
    rw [Bool.not_eq_true] at hi
    rw [hi] at H0
    clear hi
    go_enter Try.func16, Try.ntmps16
    go_wp2_with fail
    refine H0.out.mono ?_
    rintro e5 w5 ⟨rfl, m5, h5⟩
    have K5 : Hid (Keeps w w5) := by show Keeps _ _; rw [h5]; exact (Fr.refl _ _).drewN _
    clear h5
    go_wp2_with fail
    go_ret
    go_light
    exact ⟨by rw [e.out]; rfl, by rw [e.out]; exact HX.out.keeps K5.out, Keeps.fr K5.out⟩
end Go.Proofs.Ytapagllebpcnhaa
