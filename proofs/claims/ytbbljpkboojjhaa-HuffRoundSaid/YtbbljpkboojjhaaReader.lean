/- The reader of bits: what its methods compute, as rows of bits. -/
import Derived.Test.YtbbljpkboojjhaaNumber
namespace Go.Proofs.Ytbbljpkboojjhaa
open Go.RowKit

/-- A reader at block b, over bytes that lie in block g, if in any: at_ bits are taken. -/
def Rd (w : World) (b : Nat) (g : Option Nat) (zs : List Int) (at_ : Nat) : Prop :=
  g ≠ some b ∧ at_ ≤ 8 * zs.length ∧ zs.length ≤ 140737488351232 ∧ ∃ v E, v.ownBlock = g ∧
    w.heap[b]? = some (.cells #[v, .int .i64 at_] E (0, 0)) ∧ Own .u8 5 0 w v zs

theorem Rd.fr {S : Nat → Prop} {w w' : World} {b : Nat} {g : Option Nat} {zs : List Int} {at_ : Nat} (h : Rd w b g zs at_) (f : Fr S w w') (hb : ¬ S b) (hg : ∀ k, g = some k → ¬ S k) : Rd w' b g zs at_ := by
  obtain ⟨h1, h2, h3, v, E, rfl, h4, h5⟩ := h
  exact ⟨h1, h2, h3, v, E, rfl, f.heap hb h4, h5.fr f hg⟩
theorem Rd.keeps {w w' : World} {b : Nat} {g : Option Nat} {zs : List Int} {at_ : Nat} (h : Rd w b g zs at_) (f : Keeps w w') : Rd w' b g zs at_ := h.fr f (fun h => h) (fun _ _ h => h)
theorem Rd.lt {w : World} {b : Nat} {g : Option Nat} {zs : List Int} {at_ : Nat} (h : Rd w b g zs at_) : b < w.heap.size ∧ ∀ k, g = some k → k < w.heap.size := by
  obtain ⟨_, _, _, v, E, rfl, h4, h5⟩ := h
  exact ⟨(Array.getElem?_eq_some_iff.1 h4).1, fun k hk => (h5.lt k hk).2⟩

set_option maxHeartbeats 1000000 in
theorem newReader {v : Value} {zs : List Int} {w : World} (h : Ints .u8 w v zs) (hz : zs.length ≤ 140737488351232) :
    Calls Try.prog 28 #[v] w fun e w' => ∃ b g, e = .returned (.pointer (some ⟨b, 0, none⟩)) ∧ w.heap.size ≤ b ∧ (∀ k, g = some k → w.heap.size ≤ k) ∧ Rd w' b g zs 0 ∧ Keeps w w' := by
  go_enter Try.func28, Try.ntmps28
  go_wp2_with (at_builtin; refine wpList_ints rfl (.const (.slice none 0 0)) (.tmp 3) rfl elemB (.slice none 0 0) rfl rfl (Own.nil .u8 5 w.heap.size _) h (by simp; omega) (by omega) ?_; intro v1 w1 hown1 hfr1 hat1; simp only [List.nil_append] at hown1; obtain ⟨a1, c1, hv1⟩ := hown1.form; subst hv1)
  go_ret
  go_light
  have hk : Keeps w w1 := hfr1.mono fun i hi h => by simp [Value.ownBlock] at h
  refine ⟨w1.heap.size, _, rfl, hk.size, fun k hk' => (hown1.lt k hk').1, ⟨?_, by omega, hz, _, _, rfl, heap_alloc_new w1 _, (hown1.mono (Nat.zero_le _)).keeps ((Fr.refl _ _).alloc _)⟩, Fr.alloc hk _⟩
  intro h
  have := (hown1.lt _ h).2
  omega

set_option maxHeartbeats 400000 in
theorem readerLeft {w : World} {b : Nat} {g : Option Nat} {zs : List Int} {at_ : Nat} (h : Rd w b g zs at_) :
    Calls Try.prog 30 #[.pointer (some ⟨b, 0, none⟩)] w fun e w' => e = .returned (.int .i64 (8 * zs.length - at_ : Int)) ∧ ∃ k, w' = w.drewN k := by
  obtain ⟨_, hat, hz, v, E, hv, hheap, hown⟩ := h
  obtain ⟨a, c, rfl⟩ := hown.form
  have c0 := cell_of_row w b 0 _ E (0, 0) hheap
  have c1 := cell_of_row w b 1 _ E (0, 0) hheap
  obtain ⟨n, hn⟩ : ∃ n, n = zs.length := ⟨_, rfl⟩
  rw [← hn] at hat hz c0 ⊢
  simp at c0 c1
  clear hheap hown hv hn
  go_enter Try.func30, Try.ntmps30
  go_wp2
  go_quiet (fail)
  go_wp2
  go_ret
  exact ⟨rfl, _, rfl⟩

set_option maxHeartbeats 1000000 in
theorem readerTakeNo {w : World} {b : Nat} {g : Option Nat} {zs : List Int} {at_ : Nat} {n : Int} (h : Rd w b g zs at_) (hm : mayS n (8 * zs.length - at_ : Int) ≠ 0) :
    Calls Try.prog 29 #[.pointer (some ⟨b, 0, none⟩), .int .i64 n] w fun e w' => e = .returned (.tuple #[.int .i64 0, .int .i64 (mayS n (8 * zs.length - at_ : Int))]) ∧ Keeps w w' := by
  obtain ⟨m, hme⟩ : ∃ m, m = mayS n (8 * zs.length - at_ : Int) := ⟨_, rfl⟩
  rw [← hme] at hm ⊢
  have hm1 : (m == 0) = false := by simpa using hm
  have hm2 : (m != 0) = true := by simpa using hm
  have HM := Lib.hid hme
  clear hme hm
  go_enter Try.func29, Try.ntmps29
  go_wp2_with fail
  refine (readerLeft h).mono ?_
  rintro e w1 ⟨rfl, k, rfl⟩
  go_wp2_with fail
  refine (mayOf _ _ _).mono ?_
  rintro e w1 ⟨rfl, rfl⟩
  rw [← HM.out]
  go_wp2
  go_ret2
  exact ⟨rfl, (Fr.refl _ _).drewN _⟩

set_option maxHeartbeats 1000000 in
theorem readerTake {w : World} {b : Nat} {g : Option Nat} {zs : List Int} {at_ : Nat} {n : Nat} (h : Rd w b g zs at_) (hn : n ≤ 32) (hl : at_ + n ≤ 8 * zs.length) :
    Calls Try.prog 29 #[.pointer (some ⟨b, 0, none⟩), .int .i64 n] w fun e w' => e = .returned (.tuple #[.int .i64 (val (((rowOf zs).drop at_).take n)), .int .i64 0]) ∧ Rd w' b g zs (at_ + n) ∧ Fr (fun k => k = b) w w' := by
  have HH := Lib.hid h
  obtain ⟨hgb, hat, hz, v, E, hv, hheap, hown⟩ := h
  obtain ⟨a, c, hva⟩ := hown.form
  have hm : mayS (n : Int) (8 * zs.length - at_ : Int) = 0 := by rw [mayS, if_neg (by omega), if_neg (by omega)]
  have HM := Lib.hid hm
  have c0 := cell_of_row w b 0 _ E (0, 0) hheap
  have c1 := cell_of_row w b 1 _ E (0, 0) hheap
  have f1 := frozen_no hheap 1
  simp at c0 c1
  have H2 := Lib.hid hheap
  have HI := Lib.hid hown
  have HV := Lib.hid hva
  clear hheap hown hm hva
  go_enter Try.func29, Try.ntmps29
  go_wp2_with fail
  refine (readerLeft HH.out).mono ?_
  rintro e w1 ⟨rfl, k, rfl⟩
  go_wp2_with fail
  refine (mayOf _ _ _).mono ?_
  rintro e w1 ⟨rfl, rfl⟩
  rw [HM.out]
  go_wp2_with fail
  have hfr : Fr (fun k => k = b) w ((w.drewN k).setCell ⟨b, 1, none⟩ (.int .i64 ((at_ : Int) + n))) := Fr.setAt (S := fun k => k = b) ((Fr.refl _ _).drewN _) rfl _ _
  have hH2 := heap_set (heap_drewN (n := k) H2.out) 1 (.int .i64 ((at_ : Int) + n))
  generalize (w.drewN k).setCell ⟨b, 1, none⟩ (.int .i64 ((at_ : Int) + n)) = W at hfr hH2 ⊢
  have d0 := cell_of_row W b 0 _ E (0, 0) hH2
  have d1 := cell_of_row W b 1 _ E (0, 0) hH2
  simp at d0 d1
  have hown2 := HI.out.fr hfr (fun k hk h => hgb (by rw [← hv, hk, h]))
  have HO := Lib.hid hown2
  have HFR := Lib.hid hfr
  have HH2 := Lib.hid hH2
  have hw1 : IntKind.i64.wrap ((at_ : Int) + n - n) = at_ := by rw [wraps_i64 _ (by omega) (by omega)]; omega
  clear c0 c1 f1 hown2 hfr hH2
  go_quiet ((go_at_call 39; exact Calls.quiet_of_same ((numberAt (by exact (HO.out.keeps (by repeat (first | exact Fr.refl _ _ | apply Fr.drew | apply Fr.drewN))).ints) (by omega) hz hn).mono fun _ _ h => ⟨h.1, h.2.symm⟩)))
  go_wp2
  go_ret2
  go_light
  refine ⟨rfl, ⟨hgb, hl, hz, v, E, hv, ?_, HO.out.keeps ((Fr.refl _ _).drewN _)⟩, HFR.out.drewN _⟩
  rw [heap_drewN HH2.out]
  simp
end Go.Proofs.Ytbbljpkboojjhaa
