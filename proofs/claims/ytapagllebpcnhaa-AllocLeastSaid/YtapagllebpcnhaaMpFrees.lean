/- The map of numbers: Drop, Back, Settle. -/
import Derived.Test.YtapagllebpcnhaaMpSet
namespace Go.Proofs.Ytapagllebpcnhaa
open Go.RowKit

set_option maxRecDepth 100000 in
set_option maxHeartbeats 1000000 in
theorem mapDrop {R : Nat → Prop} {w : World} {b s L : Nat} {st : List Int} {rs C : Nat} {n : Int} (h : MpX R w b s L st rs C) (hn : -9223372036854775808 ≤ n ∧ n ≤ 9223372036854775807) :
    Calls Try.prog 30 #[.pointer (some ⟨b, 0, none⟩), .int .i64 n] w fun e w' => e = .returned (.bool (dropS L st n).1) ∧ MpX R w' b s L (dropS L st n).2 rs (C + 1) ∧ Fr (fun k => ¬ R k) w w' := by
  have HX := Lib.hid h
  have h0 := mapIs (x := 1) h hn
  have H0 := Lib.hid h0
  obtain ⟨r, hr⟩ : ∃ r, r = dropS L st n := ⟨_, rfl⟩
  rw [← hr]
  have HR := Lib.hid hr
  clear h h0 hr
  by_cases hi : isB L st n 1 = true
  · rw [hi] at H0
    obtain ⟨k, rfl, hk, hs⟩ := isB_true hi
    have HSK := Lib.hid hs
    have e : Hid (r = (true, st.set k 2)) := by
      show _ = _
      rw [HR.out, dropS, if_pos hi, show ((L : Int) + (k : Int) - (L : Int)).toNat = k by omega]
    clear hi hs
    go_enter Try.func30, Try.ntmps30
    go_wp2_with fail
    refine H0.out.mono ?_
    rintro e5 w5 ⟨rfl, m5, h5⟩
    have K5 : Hid (Keeps w w5) := by show Keeps _ _; rw [h5]; exact (Fr.refl _ _).drewN _
    clear h5
    obtain ⟨v6, q6, E6, h6⟩ := HX.out.keeps K5.out
    have H6 := Lib.hid h6
    obtain ⟨d0, d1, _, _, d4, _, fz⟩ := h6.cells
    have f4 := fz 4
    obtain ⟨ck, fk⟩ := h6.own.at (i := k) hk
    have hsb := h6.sb
    have hbs := fun e => h6.sb (Eq.symm e)
    have he6 := h6.end_
    have hd6 := cnt_le st 2
    obtain ⟨D, hD⟩ : ∃ D, D = cnt st 2 := ⟨_, rfl⟩
    rw [← hD] at d4 hd6
    have HD := Lib.hid hD
    obtain ⟨y, hy⟩ : ∃ y, y = st.getD k 0 := ⟨_, rfl⟩
    rw [← hy] at ck
    have t1 : (0 : Int) ≤ (L : Int) + (k : Int) - (L : Int) := by omega
    have t2 : (L : Int) + (k : Int) - (L : Int) < (st.length : Int) := by omega
    clear h6 fz hD hy
    go_wp2_with fail
    go_region
    go_wp2_with fail
    go_ret
    go_light
    obtain ⟨g1, g2, g3⟩ := H6.out.two (k := k) (y := 2) (by decide) 4 (.int .i64 ((D : Int) + 1))
    have hc0 := cnt_set 0 2 st k hk
    have hc2 := cnt_set 2 2 st k hk
    rw [HSK.out] at hc0 hc2
    simp at hc0 hc2
    have hdd := HD.out
    refine ⟨by rw [e.out]; rfl, ?_, (Keeps.fr K5.out).trans (H6.out.notR g3) (fun _ _ h => h)⟩
    rw [e.out]
    exact ⟨v6, q6, E6, H6.out.upd (by rw [g1, show (D : Int) + 1 = ((cnt (st.set k 2) 2 : Nat) : Int) by omega, hc0]; rfl) g2 g3 (by simp) (val_set hk H6.out.val (by omega)) (fun i hi h0 => by
      rw [set_get st k 2 i hk] at h0
      split at h0
      · omega
      · exact h0) (by have := H6.out.rsb; show rs ≤ cnt (st.set k 2) 0; omega) (by have := H6.out.qb; show q6.length + cnt (st.set k 2) 2 ≤ C + 1; omega)⟩
  · have e : Hid (r = (false, st)) := by
      show _ = _
      rw [HR.out, dropS, if_neg hi]
    rw [Bool.not_eq_true] at hi
    rw [hi] at H0
    clear hi
    go_enter Try.func30, Try.ntmps30
    go_wp2_with fail
    refine H0.out.mono ?_
    rintro e5 w5 ⟨rfl, m5, h5⟩
    have K5 : Hid (Keeps w w5) := by show Keeps _ _; rw [h5]; exact (Fr.refl _ _).drewN _
    clear h5
    go_wp2_with fail
    go_ret
    go_light
    exact ⟨by rw [e.out]; rfl, by rw [e.out]; exact (HX.out.keeps K5.out).mono (by omega), Keeps.fr K5.out⟩

set_option maxRecDepth 100000 in
set_option maxHeartbeats 1000000 in
theorem mapFrees {R : Nat → Prop} {w : World} {b s L : Nat} {st : List Int} {rs C C' D k : Nat} {v : Value} {q : List Int} {E : TypeId} (h : Mp R w b s L st rs C v q E D) (hC : C ≤ 17592186044100) (hk : k < st.length) (h0 : st.getD k 0 ≠ 0) (hC' : q.length + 1 + cnt (st.set k 0) 2 ≤ C') :
    Calls Try.prog 37 #[.pointer (some ⟨b, 0, none⟩), .int .i64 ((L : Int) + (k : Int))] w fun e w' => e = .returned (.tuple #[]) ∧ (∃ v' q', q'.length = q.length + 1 ∧ Mp R w' b s L (st.set k 0) rs C' v' q' E D) ∧ Fr (fun k => ¬ R k) w w' := by
  have H6 := Lib.hid h
  have H0 := Lib.hid h0
  have HC' := Lib.hid hC'
  obtain ⟨d0, d1, _, d3, _, _, fz⟩ := h.cells
  have f3 := fz 3
  obtain ⟨ck, fk⟩ := h.own.at (i := k) hk
  have hsb := h.sb
  have hbs := fun e => h.sb (Eq.symm e)
  have he6 := h.end_
  have hc6 := cnt_le st 0
  have hqb := h.qb
  obtain ⟨c, hc⟩ : ∃ c, c = cnt st 0 := ⟨_, rfl⟩
  rw [← hc] at d3 hc6
  have HCC := Lib.hid hc
  obtain ⟨y, hy⟩ : ∃ y, y = st.getD k 0 := ⟨_, rfl⟩
  rw [← hy] at ck
  have t1 : (0 : Int) ≤ (L : Int) + (k : Int) - (L : Int) := by omega
  have t2 : (L : Int) + (k : Int) - (L : Int) < (st.length : Int) := by omega
  clear h fz hc hy h0 hC'
  go_enter Try.func37, Try.ntmps37
  go_wp2_with fail
  go_region
  go_wp2_with fail
  obtain ⟨g1, g2, g3⟩ := H6.out.two (k := k) (y := 0) (by decide) 3 (.int .i64 ((c : Int) + 1))
  have hqo := H6.out.qown.fr g3 (fun x hx e => by
    rcases e with rfl | rfl
    · exact H6.out.vb hx
    · exact H6.out.vs hx)
  have hp := heapPush hqo (by omega) (x := (L : Int) + (k : Int)) (by
    simp [Lit.wf, IntKind.min, IntKind.max, IntKind.signed, IntKind.bits]
    omega) g1 (off := 2) (by rfl) H6.out.vb H6.out.hq
  refine hp.mono ?_
  rintro e w7 ⟨rfl, q', v', hqa, hh', hl', hm'⟩
  have HQA := Lib.hid hqa
  have HHP := Lib.hid hh'
  have HLN := Lib.hid hl'
  have HMM := Lib.hid hm'
  have G1 := Lib.hid g1
  have G2 := Lib.hid g2
  have G3 := Lib.hid g3
  clear hqa hh' hl' hm' g1 g2 g3 hqo hp
  generalize ((w.setCell ⟨s, k, none⟩ (.int .u8 0)).setCell ⟨b, 3, none⟩ (.int .i64 ((c : Int) + 1))).drew = W at *
  go_wp2_with fail
  go_end0
  go_light
  have hc0 := cnt_set 0 0 st k hk
  rw [if_neg H0.out] at hc0
  simp at hc0
  have hbl : b < w.heap.size := (Array.getElem?_eq_some_iff.1 H6.out.heap).1
  have hsl : s < w.heap.size := (H6.out.own.lt s rfl).2
  have hW := G3.out.size
  have hvn : ∀ x, v'.ownBlock = some x → v.ownBlock = some x ∨ w.heap.size ≤ x := fun x hx => by
    rcases HQA.out.at_ with h1 | h1
    · exact .inl (h1.symm.trans hx)
    · exact .inr (Nat.le_trans hW (h1 x hx))
  have hcc := HCC.out
  refine ⟨rfl, ⟨v', q', HLN.out, ?_⟩, (H6.out.notR G3.out).trans (HQA.out.fr.mono (fun i _ hi hR => ?_)) (fun _ _ h => h)⟩
  · refine ⟨?_, ?_, HQA.out.own, H6.out.sb, fun e => ?_, fun e => ?_, HHP.out, fun y hy => ?_, fun i hi hz => ?_, ?_, ?_, by rw [List.length_set]; exact H6.out.end_, by rw [HLN.out]; exact HC'.out, fun x hx => Nat.lt_of_lt_of_le (H6.out.hR x hx) (Nat.le_trans hW HQA.out.fr.size), H6.out.rb, H6.out.rS, fun x hx hR => ?_⟩
    · rw [HQA.out.head _ _ G1.out, List.length_set, show (c : Int) + 1 = ((cnt (st.set k 0) 0 : Nat) : Int) by omega]; rfl
    · rw [List.length_set]
      exact G2.out.fr HQA.out.fr (fun x hx e => by
        cases hx
        rcases e with e | e
        · exact H6.out.sb e
        · exact H6.out.vs e)
    · rcases hvn _ e with h | h
      · exact H6.out.vb h
      · omega
    · rcases hvn _ e with h | h
      · exact H6.out.vs h
      · omega
    · rw [List.length_set]
      rcases (HMM.out y).1 hy with rfl | h
      · omega
      · exact H6.out.sub y h
    · rw [List.length_set] at hi
      refine (HMM.out _).2 ?_
      by_cases he : i = k
      · left; rw [he]; omega
      · right
        rw [set_get st k 0 i hk, if_neg he] at hz
        exact H6.out.free i hi hz
    · intro i hi
      rw [List.length_set] at hi
      exact val_set hk H6.out.val (by omega) i hi
    · have := H6.out.rsb; omega
    · rcases hvn _ hx with h | h
      · exact H6.out.rv x h hR
      · have := H6.out.hR x hR; omega
  · rcases hi with rfl | h
    · exact H6.out.rb hR
    · exact H6.out.rv i h hR

set_option maxRecDepth 100000 in
set_option maxHeartbeats 1000000 in
theorem mapBack {R : Nat → Prop} {w : World} {b s L : Nat} {st : List Int} {rs C : Nat} {n : Int} (h : MpX R w b s L st rs C) (hC : C ≤ 17592186044100) (hn : -9223372036854775808 ≤ n ∧ n ≤ 9223372036854775807) :
    Calls Try.prog 28 #[.pointer (some ⟨b, 0, none⟩), .int .i64 n] w fun e w' => e = .returned (.bool (freeS L st n).1) ∧ MpX R w' b s L (freeS L st n).2 rs (C + 1) ∧ Fr (fun k => ¬ R k) w w' := by
  have HX := Lib.hid h
  have h0 := mapIs (x := 1) h hn
  have H0 := Lib.hid h0
  obtain ⟨r, hr⟩ : ∃ r, r = freeS L st n := ⟨_, rfl⟩
  rw [← hr]
  have HR := Lib.hid hr
  clear h h0 hr
  by_cases hi : isB L st n 1 = true
  · rw [hi] at H0
    obtain ⟨k, rfl, hk, hs⟩ := isB_true hi
    have HSK := Lib.hid hs
    have e : Hid (r = (true, st.set k 0)) := by
      show _ = _
      rw [HR.out, freeS, if_pos hi, show ((L : Int) + (k : Int) - (L : Int)).toNat = k by omega]
    have HF : Hid (∀ w', Keeps w w' → Calls Try.prog 37 #[.pointer (some ⟨b, 0, none⟩), .int .i64 ((L : Int) + (k : Int))] w' fun e w'' => e = .returned (.tuple #[]) ∧ MpX R w'' b s L (st.set k 0) rs (C + 1) ∧ Fr (fun k => ¬ R k) w' w'') := fun w' kp => by
      obtain ⟨v, q, E, hx⟩ := HX.out.keeps kp
      have hc2 := cnt_set 2 0 st k hk
      rw [hs] at hc2
      simp at hc2
      have hq := hx.qb
      refine (mapFrees hx hC hk (by rw [hs]; decide) (C' := C + 1) (by omega)).mono fun e w'' ⟨h1, ⟨v', q', _, h2⟩, h3⟩ => ⟨h1, ⟨v', q', E, ?_⟩, h3⟩
      rw [hc2]
      exact h2
    clear hi hs
    go_enter Try.func28, Try.ntmps28
    go_wp2_with fail
    refine H0.out.mono ?_
    rintro e5 w5 ⟨rfl, m5, h5⟩
    have K5 : Hid (Keeps w w5) := by show Keeps _ _; rw [h5]; exact (Fr.refl _ _).drewN _
    clear h5
    go_wp2_with fail
    refine (HF.out _ K5.out).mono ?_
    rintro e6 w6 ⟨rfl, h6, f6⟩
    have H6 := Lib.hid h6
    have F6 := Lib.hid f6
    clear h6 f6
    go_wp2_with fail
    go_ret
    go_light
    exact ⟨by rw [e.out]; rfl, by rw [e.out]; exact H6.out, (Keeps.fr K5.out).trans F6.out (fun _ _ h => h)⟩
  · have e : Hid (r = (false, st)) := by
      show _ = _
      rw [HR.out, freeS, if_neg hi]
    rw [Bool.not_eq_true] at hi
    rw [hi] at H0
    clear hi
    go_enter Try.func28, Try.ntmps28
    go_wp2_with fail
    refine H0.out.mono ?_
    rintro e5 w5 ⟨rfl, m5, h5⟩
    have K5 : Hid (Keeps w w5) := by show Keeps _ _; rw [h5]; exact (Fr.refl _ _).drewN _
    clear h5
    go_wp2_with fail
    go_ret
    go_light
    exact ⟨by rw [e.out]; rfl, by rw [e.out]; exact (HX.out.keeps K5.out).mono (by omega), Keeps.fr K5.out⟩
end Go.Proofs.Ytapagllebpcnhaa
