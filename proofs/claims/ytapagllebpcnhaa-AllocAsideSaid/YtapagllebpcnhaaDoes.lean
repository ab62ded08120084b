/- A deed, of both maps. -/
import Derived.Test.YtapagllebpcnhaaRfOps3
import Derived.Deep.RegionHeld3
namespace Go.Proofs.Ytapagllebpcnhaa
open Go.RowKit

/-- what a deed makes of the states, and of how many are set aside -/
def doesA (L : Nat) (st : List Int) (rs : Nat) (kind n : Int) : List Int × Nat :=
  if pickS kind 7 = 0 then ((takeA L st rs).2.2.1, (takeA L st rs).2.2.2)
  else if pickS kind 7 = 1 then ((markS L st rs n).2, rs)
  else if pickS kind 7 = 2 then ((freeS L st n).2, rs)
  else if pickS kind 7 = 3 then ((dropS L st n).2, rs)
  else if pickS kind 7 = 4 then (settleS st, rs)
  else if pickS kind 7 = 5 then (st, (reserveS st rs n).2)
  else (st, 0)

/-- both maps, of the same states -/
def Both (R : Nat → Prop) (w : World) (b s rb rl L : Nat) (st : List Int) (rs C : Nat) : Prop := MpX R w b s L st rs C ∧ Rf w rb rl L st rs ∧ R rb ∧ R rl
theorem Both.keeps {R : Nat → Prop} {w w' : World} {b s rb rl L : Nat} {st : List Int} {rs C : Nat} (h : Both R w b s rb rl L st rs C) (f : Keeps w w') : Both R w' b s rb rl L st rs C := ⟨h.1.keeps f, h.2.1.keeps f, h.2.2⟩

theorem MpX.widen {R : Nat → Prop} {w w' : World} {b s L : Nat} {st : List Int} {rs C : Nat} (h : MpX R w b s L st rs C) (f : Keeps w w') : MpX (fun k => R k ∨ (w.heap.size ≤ k ∧ k < w'.heap.size)) w' b s L st rs C := by
  obtain ⟨v, q, E, h⟩ := h
  have hbl : b < w.heap.size := (Array.getElem?_eq_some_iff.1 h.heap).1
  have hsl : s < w.heap.size := (h.own.lt s rfl).2
  have h' := h.fr f (fun h => h) (fun h => h) (fun _ _ h => h)
  refine ⟨v, q, E, ⟨h'.heap, h'.own, h'.qown, h.sb, h.vb, h.vs, h.hq, h.sub, h.free, h.val, h.rsb, h.end_, h.qb, fun k hk => ?_, fun hk => ?_, fun hk => ?_, fun k hv hk => ?_⟩⟩
  · rcases hk with hk | hk
    · exact Nat.lt_of_lt_of_le (h.hR k hk) f.size
    · exact hk.2
  · rcases hk with hk | hk
    · exact h.rb hk
    · omega
  · rcases hk with hk | hk
    · exact h.rS hk
    · omega
  · rcases hk with hk | hk
    · exact h.rv k hv hk
    · have := (h.qown.lt k hv).2; omega
theorem MpX.narrow {R R' : Nat → Prop} {w : World} {b s L : Nat} {st : List Int} {rs C : Nat} (h : MpX R' w b s L st rs C) (hs : ∀ k, R k → R' k) : MpX R w b s L st rs C := by
  obtain ⟨v, q, E, h⟩ := h
  exact ⟨v, q, E, ⟨h.heap, h.own, h.qown, h.sb, h.vb, h.vs, h.hq, h.sub, h.free, h.val, h.rsb, h.end_, h.qb, fun k hk => h.hR k (hs k hk), fun hk => h.rb (hs _ hk), fun hk => h.rS (hs _ hk), fun k hv hk => h.rv k hv (hs _ hk)⟩⟩

/-- a deed of the one, then of the other -/
theorem two_steps {R : Nat → Prop} {w w1 w2 : World} {b s rb rl L : Nat} {st st' : List Int} {rs rs' C C' : Nat} (h : Both R w b s rb rl L st rs C) (f1 : Fr (fun k => ¬ R k) w w1) (hm : MpX R w1 b s L st' rs' C') (f2 : Fr (fun k => k = rb ∨ k = rl) w1 w2) (hr : Rf w2 rb rl L st' rs') :
    Both R w2 b s rb rl L st' rs' C' ∧ Fr (fun k => ¬ R k ∨ k = rb ∨ k = rl) w w2 :=
  ⟨⟨hm.fr f2 (fun k hk => by
    rcases hk with rfl | rfl
    · exact h.2.2.1
    · exact h.2.2.2), hr, h.2.2⟩, (f1.mono fun _ _ h => .inl h).trans f2 (fun _ _ h => .inr h)⟩
theorem Both.ref {R : Nat → Prop} {w w1 : World} {b s rb rl L : Nat} {st : List Int} {rs C : Nat} (h : Both R w b s rb rl L st rs C) (f1 : Fr (fun k => ¬ R k) w w1) : Rf w1 rb rl L st rs := h.2.1.fr f1 (fun e => e h.2.2.1) (fun e => e h.2.2.2)

set_option maxRecDepth 100000 in
set_option maxHeartbeats 4000000 in
theorem doesBoth {R : Nat → Prop} {w : World} {b s rb rl L : Nat} {st : List Int} {rs C : Nat} {kind n : Int} (h : Both R w b s rb rl L st rs C) (hC : C ≤ 17592186044100) (hk : -9223372036854775808 ≤ kind ∧ kind ≤ 9223372036854775807) (hn : -9223372036854775808 ≤ n ∧ n ≤ 9223372036854775807) :
    Calls Try.prog 10 #[.pointer (some ⟨b, 0, none⟩), .pointer (some ⟨rb, 0, none⟩), .agg #[.int .i64 kind, .int .i64 n]] w fun e w' => e = .returned (.bool true) ∧ Both R w' b s rb rl L (doesA L st rs kind n).1 (doesA L st rs kind n).2 (C + 1) ∧ Fr (fun k => ¬ R k ∨ k = rb ∨ k = rl) w w' := by
  have HB := Lib.hid h
  have hpk := pickS_lt kind (n := 7) (by omega)
  have HPC := Lib.hid (fun (w : World) => pickOf (w := w) hk (n := 7) (by omega) (by omega))
  obtain ⟨r, hr⟩ : ∃ r, r = doesA L st rs kind n := ⟨_, rfl⟩
  rw [← hr]
  unfold doesA at hr
  generalize pickS kind 7 = p at *
  have HR := Lib.hid hr
  clear h hr
  have hor : p = 0 ∨ p = 1 ∨ p = 2 ∨ p = 3 ∨ p = 4 ∨ p = 5 ∨ p = 6 := by omega
  have hR1 : Hid (∀ k, R k → k < w.heap.size) := by
    obtain ⟨_, _, _, hx⟩ := HB.out.1
    exact hx.hR
  obtain ⟨W, hW⟩ : ∃ W, W = w.alloc (.cells #[.int .i64 kind, .int .i64 n] 33) := ⟨_, rfl⟩
  have KW : Hid (Keeps w W) := by rw [hW]; exact (Fr.refl _ _).alloc _
  have hWs : W.heap.size = w.heap.size + 1 := by rw [hW]; simp
  obtain ⟨R', hR'⟩ : ∃ R' : Nat → Prop, R' = fun k => R k ∨ (w.heap.size ≤ k ∧ k < W.heap.size) := ⟨_, rfl⟩
  have HB1 : Hid (Both R' W b s rb rl L st rs C) := by
    rw [hR']
    exact ⟨HB.out.1.widen KW.out, HB.out.2.1.keeps KW.out, .inl HB.out.2.2.1, .inl HB.out.2.2.2⟩
  have HRB : Hid (R' w.heap.size) := by rw [hR']; exact .inr ⟨Nat.le_refl _, by omega⟩
  have hx0 : W.cell? ⟨w.heap.size, 0, none⟩ = some (.int .i64 kind) := by rw [hW, World.cell?_alloc_new]; rfl
  have hx1 : W.cell? ⟨w.heap.size, 1, none⟩ = some (.int .i64 n) := by rw [hW, World.cell?_alloc_new]; rfl
  have HX1 := Lib.hid hx1
  have HEND : Hid (∀ (w' : World) (st' : List Int) (rs' : Nat), Both R' w' b s rb rl L st' rs' (C + 1) → Fr (fun k => ¬ R' k ∨ k = rb ∨ k = rl) W w' → Both R w' b s rb rl L st' rs' (C + 1) ∧ Fr (fun k => ¬ R k ∨ k = rb ∨ k = rl) w w') := fun w' st' rs' hb hf => by
    rw [hR'] at hb hf
    refine ⟨⟨hb.1.narrow (fun k hk => .inl hk), hb.2.1, HB.out.2.2⟩, (Keeps.fr KW.out).trans (hf.mono (fun i _ hi => ?_)) (fun _ _ h => h)⟩
    rcases hi with hi | hi
    · exact .inl (fun h => hi (.inl h))
    · exact .inr hi
  have HNE : Hid (¬ (w.heap.size = rb ∨ w.heap.size = rl)) := fun e => by
    rcases e with e | e
    · have := hR1.out _ HB.out.2.2.1; omega
    · have := hR1.out _ HB.out.2.2.2; omega
  clear hpk hWs hR'
  rcases hor with rfl | rfl | rfl | rfl | rfl | rfl | rfl
  case inl =>
    have e : Hid (r = ((takeA L st rs).2.2.1, (takeA L st rs).2.2.2)) := HR.out
    obtain ⟨x1, hx1⟩ : ∃ x, x = (takeA L st rs).1 := ⟨_, rfl⟩
    obtain ⟨x2, hx2⟩ : ∃ x, x = (takeA L st rs).2.1 := ⟨_, rfl⟩
    have HX2 : Hid (x1 = (takeA L st rs).1 ∧ x2 = (takeA L st rs).2.1) := ⟨hx1, hx2⟩
    have hxx1 : ((x1 : Int) == (x1 : Int)) = true := by simp
    have hxx2 : (x2 == x2) = true := by simp
    clear hx1 hx2
    go_enter Try.func10, Try.ntmps10
    go_wp2_with fail
    rw [← hW]
    clear hW
    refine (HPC.out _).mono ?_
    rintro e0 w1 ⟨rfl, hw1⟩
    rw [hw1]
    clear hw1
    go_wp2_with fail
    refine (mapTake HB1.out.1 hC).mono ?_
    rw [← HX2.out.1, ← HX2.out.2]
    rintro e5 w5 ⟨rfl, h5, f5⟩
    have H5 := Lib.hid h5
    have F5 := Lib.hid f5
    clear h5 f5
    go_wp2_with fail
    refine (refTake (HB1.out.ref F5.out)).mono ?_
    rw [← HX2.out.1, ← HX2.out.2]
    rintro e6 w6 ⟨rfl, h6, f6⟩
    have hts := two_steps HB1.out F5.out (H5.out.mono (C' := C + 1) (by omega)) f6 h6
    have HTS := Lib.hid (HEND.out _ _ _ hts.1 hts.2)
    clear h6 f6 hts
    go_wp2_with fail
    go_ret
    go_light
    exact ⟨rfl, by rw [e.out]; exact HTS.out.1, HTS.out.2⟩
  case inr.inl =>
    have e : Hid (r = ((markS L st rs n).2, rs)) := HR.out
    obtain ⟨x, hx⟩ : ∃ x, x = (markS L st rs n).1 := ⟨_, rfl⟩
    have HX := Lib.hid hx
    have hxx : (x == x) = true := by simp
    clear hx
    go_enter Try.func10, Try.ntmps10
    go_wp2_with fail
    rw [← hW]
    clear hW
    refine (HPC.out _).mono ?_
    rintro e0 w1 ⟨rfl, hw1⟩
    rw [hw1]
    clear hw1
    go_wp2_with fail
    go_region_held3 (fun w' => w'.cell? ⟨w.heap.size, 1, none⟩ = some (.int .i64 n)) (first | exact e2 | exact e1 | exact hx1 | go_keep) (first
      | (go_at_call 16; refine (mapMark (HB1.out.1.keeps (by repeat (first | exact Fr.refl _ _ | apply Fr.drew | apply Fr.drewN))) hn).mono ?_; rw [← HX.out]; rintro e5 w5 ⟨rfl, h5, f5⟩; have e1 := f5.cell (p := ⟨w.heap.size, 1, none⟩) (fun h => h HRB.out) HX1.out)
      | (go_at_call 31; refine (refMark ((HB1.out.ref (Fr.trans (S := fun k => ¬ R' k) (by repeat (first | exact Fr.refl _ _ | apply Fr.drew | apply Fr.drewN)) f5 (fun _ _ h => h))).keeps (by repeat (first | exact Fr.refl _ _ | apply Fr.drew | apply Fr.drewN))) hn).mono ?_; rw [← HX.out]; rintro e6 w6 ⟨rfl, h6, f6⟩; have e2 := f6.cell (p := ⟨w.heap.size, 1, none⟩) HNE.out e1))
    have f5b : Fr (fun k => ¬ R' k) W w5 := Fr.trans (S := fun k => ¬ R' k) (by repeat (first | exact Fr.refl _ _ | apply Fr.drew | apply Fr.drewN)) f5 (fun _ _ h => h)
    have f6b : Fr (fun k => k = rb ∨ k = rl) w5 w6 := Fr.trans (S := fun k => k = rb ∨ k = rl) (by repeat (first | exact Fr.refl _ _ | apply Fr.drew | apply Fr.drewN)) f6 (fun _ _ h => h)
    have hts := two_steps HB1.out f5b (h5.mono (C' := C + 1) (by omega)) f6b h6
    have HTS := Lib.hid (HEND.out _ _ _ hts.1 hts.2)
    clear h5 f5 h6 f6 f5b f6b hts
    go_wp2_with fail
    go_ret
    go_light
    exact ⟨rfl, by rw [e.out]; exact HTS.out.1, HTS.out.2⟩
  case inr.inr.inl =>
    have e : Hid (r = ((freeS L st n).2, rs)) := HR.out
    obtain ⟨x, hx⟩ : ∃ x, x = (freeS L st n).1 := ⟨_, rfl⟩
    have HX := Lib.hid hx
    have hxx : (x == x) = true := by simp
    clear hx
    go_enter Try.func10, Try.ntmps10
    go_wp2_with fail
    rw [← hW]
    clear hW
    refine (HPC.out _).mono ?_
    rintro e0 w1 ⟨rfl, hw1⟩
    rw [hw1]
    clear hw1
    go_wp2_with fail
    go_region_held3 (fun w' => w'.cell? ⟨w.heap.size, 1, none⟩ = some (.int .i64 n)) (first | exact e2 | exact e1 | exact hx1 | go_keep) (first
      | (go_at_call 28; refine (mapBack (HB1.out.1.keeps (by repeat (first | exact Fr.refl _ _ | apply Fr.drew | apply Fr.drewN))) hC hn).mono ?_; rw [← HX.out]; rintro e5 w5 ⟨rfl, h5, f5⟩; have e1 := f5.cell (p := ⟨w.heap.size, 1, none⟩) (fun h => h HRB.out) HX1.out)
      | (go_at_call 29; refine (refBack ((HB1.out.ref (Fr.trans (S := fun k => ¬ R' k) (by repeat (first | exact Fr.refl _ _ | apply Fr.drew | apply Fr.drewN)) f5 (fun _ _ h => h))).keeps (by repeat (first | exact Fr.refl _ _ | apply Fr.drew | apply Fr.drewN))) hn).mono ?_; rw [← HX.out]; rintro e6 w6 ⟨rfl, h6, f6⟩; have e2 := f6.cell (p := ⟨w.heap.size, 1, none⟩) HNE.out e1))
    have f5b : Fr (fun k => ¬ R' k) W w5 := Fr.trans (S := fun k => ¬ R' k) (by repeat (first | exact Fr.refl _ _ | apply Fr.drew | apply Fr.drewN)) f5 (fun _ _ h => h)
    have f6b : Fr (fun k => k = rb ∨ k = rl) w5 w6 := Fr.trans (S := fun k => k = rb ∨ k = rl) (by repeat (first | exact Fr.refl _ _ | apply Fr.drew | apply Fr.drewN)) f6 (fun _ _ h => h)
    have hts := two_steps HB1.out f5b (h5.mono (C' := C + 1) (by omega)) f6b h6
    have HTS := Lib.hid (HEND.out _ _ _ hts.1 hts.2)
    clear h5 f5 h6 f6 f5b f6b hts
    go_wp2_with fail
    go_ret
    go_light
    exact ⟨rfl, by rw [e.out]; exact HTS.out.1, HTS.out.2⟩
  case inr.inr.inr.inl =>
    have e : Hid (r = ((dropS L st n).2, rs)) := HR.out
    obtain ⟨x, hx⟩ : ∃ x, x = (dropS L st n).1 := ⟨_, rfl⟩
    have HX := Lib.hid hx
    have hxx : (x == x) = true := by simp
    clear hx
    go_enter Try.func10, Try.ntmps10
    go_wp2_with fail
    rw [← hW]
    clear hW
    refine (HPC.out _).mono ?_
    rintro e0 w1 ⟨rfl, hw1⟩
    rw [hw1]
    clear hw1
    go_wp2_with fail
    go_region_held3 (fun w' => w'.cell? ⟨w.heap.size, 1, none⟩ = some (.int .i64 n)) (first | exact e2 | exact e1 | exact hx1 | go_keep) (first
      | (go_at_call 30; refine (mapDrop (HB1.out.1.keeps (by repeat (first | exact Fr.refl _ _ | apply Fr.drew | apply Fr.drewN))) hn).mono ?_; rw [← HX.out]; rintro e5 w5 ⟨rfl, h5, f5⟩; have e1 := f5.cell (p := ⟨w.heap.size, 1, none⟩) (fun h => h HRB.out) HX1.out)
      | (go_at_call 32; refine (refDrop ((HB1.out.ref (Fr.trans (S := fun k => ¬ R' k) (by repeat (first | exact Fr.refl _ _ | apply Fr.drew | apply Fr.drewN)) f5 (fun _ _ h => h))).keeps (by repeat (first | exact Fr.refl _ _ | apply Fr.drew | apply Fr.drewN))) hn).mono ?_; rw [← HX.out]; rintro e6 w6 ⟨rfl, h6, f6⟩; have e2 := f6.cell (p := ⟨w.heap.size, 1, none⟩) HNE.out e1))
    have f5b : Fr (fun k => ¬ R' k) W w5 := Fr.trans (S := fun k => ¬ R' k) (by repeat (first | exact Fr.refl _ _ | apply Fr.drew | apply Fr.drewN)) f5 (fun _ _ h => h)
    have f6b : Fr (fun k => k = rb ∨ k = rl) w5 w6 := Fr.trans (S := fun k => k = rb ∨ k = rl) (by repeat (first | exact Fr.refl _ _ | apply Fr.drew | apply Fr.drewN)) f6 (fun _ _ h => h)
    have hts := two_steps HB1.out f5b (h5.mono (C' := C + 1) (by omega)) f6b h6
    have HTS := Lib.hid (HEND.out _ _ _ hts.1 hts.2)
    clear h5 f5 h6 f6 f5b f6b hts
    go_wp2_with fail
    go_ret
    go_light
    exact ⟨rfl, by rw [e.out]; exact HTS.out.1, HTS.out.2⟩
  case inr.inr.inr.inr.inr.inl =>
    have e : Hid (r = (st, (reserveS st rs n).2)) := HR.out
    obtain ⟨x, hx⟩ : ∃ x, x = (reserveS st rs n).1 := ⟨_, rfl⟩
    have HX := Lib.hid hx
    have hxx : (x == x) = true := by simp
    clear hx
    go_enter Try.func10, Try.ntmps10
    go_wp2_with fail
    rw [← hW]
    clear hW
    refine (HPC.out _).mono ?_
    rintro e0 w1 ⟨rfl, hw1⟩
    rw [hw1]
    clear hw1
    go_wp2_with fail
    go_region_held3 (fun w' => w'.cell? ⟨w.heap.size, 1, none⟩ = some (.int .i64 n)) (first | exact e2 | exact e1 | exact hx1 | go_keep) (first
      | (go_at_call 15; refine (mapReserve (HB1.out.1.keeps (by repeat (first | exact Fr.refl _ _ | apply Fr.drew | apply Fr.drewN)))).mono ?_; rw [← HX.out]; rintro e5 w5 ⟨rfl, h5, f5⟩; have e1 := f5.cell (p := ⟨w.heap.size, 1, none⟩) (fun h => h HRB.out) HX1.out)
      | (go_at_call 34; refine (refReserve ((HB1.out.ref (Fr.trans (S := fun k => ¬ R' k) (by repeat (first | exact Fr.refl _ _ | apply Fr.drew | apply Fr.drewN)) f5 (fun _ _ h => h))).keeps (by repeat (first | exact Fr.refl _ _ | apply Fr.drew | apply Fr.drewN)))).mono ?_; rw [← HX.out]; rintro e6 w6 ⟨rfl, h6, f6⟩; have e2 := f6.cell (p := ⟨w.heap.size, 1, none⟩) HNE.out e1))
    have f5b : Fr (fun k => ¬ R' k) W w5 := Fr.trans (S := fun k => ¬ R' k) (by repeat (first | exact Fr.refl _ _ | apply Fr.drew | apply Fr.drewN)) f5 (fun _ _ h => h)
    have f6b : Fr (fun k => k = rb ∨ k = rl) w5 w6 := Fr.trans (S := fun k => k = rb ∨ k = rl) (by repeat (first | exact Fr.refl _ _ | apply Fr.drew | apply Fr.drewN)) f6 (fun _ _ h => h)
    have hts := two_steps HB1.out f5b (h5.mono (C' := C + 1) (by omega)) f6b h6
    have HTS := Lib.hid (HEND.out _ _ _ hts.1 hts.2)
    clear h5 f5 h6 f6 f5b f6b hts
    go_wp2_with fail
    go_ret
    go_light
    exact ⟨rfl, by rw [e.out]; exact HTS.out.1, HTS.out.2⟩
  case inr.inr.inr.inr.inl =>
    have e : Hid (r = (settleS st, rs)) := HR.out
    go_enter Try.func10, Try.ntmps10
    go_wp2_with fail
    rw [← hW]
    clear hW
    refine (HPC.out _).mono ?_
    rintro e0 w1 ⟨rfl, hw1⟩
    rw [hw1]
    clear hw1
    go_wp2_with fail
    refine (mapSettle HB1.out.1 hC).mono ?_
    rintro e5 w5 ⟨rfl, h5, f5⟩
    have H5 := Lib.hid h5
    have F5 := Lib.hid f5
    clear h5 f5
    go_wp2_with fail
    refine (refSettle (HB1.out.ref F5.out)).mono ?_
    rintro e6 w6 ⟨rfl, h6, f6⟩
    have hts := two_steps HB1.out F5.out (H5.out.mono (C' := C + 1) (by omega)) f6 h6
    have HTS := Lib.hid (HEND.out _ _ _ hts.1 hts.2)
    clear h6 f6 hts
    go_wp2_with fail
    go_ret
    go_light
    exact ⟨rfl, by rw [e.out]; exact HTS.out.1, HTS.out.2⟩
  case inr.inr.inr.inr.inr.inr =>
    have e : Hid (r = (st, 0)) := HR.out
    go_enter Try.func10, Try.ntmps10
    go_wp2_with fail
    rw [← hW]
    clear hW
    refine (HPC.out _).mono ?_
    rintro e0 w1 ⟨rfl, hw1⟩
    rw [hw1]
    clear hw1
    go_wp2_with fail
    refine (mapRelease HB1.out.1).mono ?_
    rintro e5 w5 ⟨rfl, h5, f5⟩
    have hr5 := HB1.out.ref f5
    have H5 := Lib.hid h5
    have F5 := Lib.hid f5
    have HR5 := Lib.hid hr5
    obtain ⟨_, _, d2, fz⟩ := hr5.cells
    have f2 := fz 2
    clear h5 f5 hr5 fz
    go_wp2_with fail
    go_ret
    go_light
    obtain ⟨E, hE⟩ := HR5.out.heap
    have f6 : Fr (fun k => k = rb ∨ k = rl) w5 (w5.setCell ⟨rb, 2, none⟩ (.int .i64 0)) := (Fr.refl _ w5).setAt (.inl rfl) 2 _
    have h6 : Rf (w5.setCell ⟨rb, 2, none⟩ (.int .i64 0)) rb rl L st 0 := HR5.out.put ⟨E, by rw [heap_set hE]; rfl⟩ (HR5.out.own.fr ((Fr.refl (fun k => k = rb) w5).setAt rfl 2 _) (fun x hx e => by have hx2 : rl = x := Option.some.inj hx; exact HR5.out.lb (hx2.trans e))) rfl HR5.out.val (Nat.zero_le _)
    have hts := two_steps HB1.out F5.out (H5.out.mono (C' := C + 1) (by omega)) f6 h6
    have hq := HEND.out _ _ _ hts.1 hts.2
    exact ⟨rfl, by rw [e.out]; exact hq.1, hq.2⟩
end Go.Proofs.Ytapagllebpcnhaa
