/- The reader of bits from the end, and the reference's: what they compute, as rows of bits. -/
import Derived.Test.YtbbldbdmnaielaaNumber
import Derived.Test.YtbbldbdmnaielaaLen8
import Derived.Deep.RegionLaw
import Derived.Deep.RegionWith
import Derived.Deep.DrawnRows
import Derived.Deep.RegionHeld3
namespace Go.Proofs.Ytbbldbdmnaielaa
open Go.RowKit

/-- the last 1 of a row -/
def IsMark (row : List Int) (m : Nat) : Prop := m < row.length ∧ row.getD m 0 = 1 ∧ ∀ i, m < i → i < row.length → row.getD i 0 = 0

theorem IsMark.uniq {row : List Int} {m n : Nat} (h : IsMark row m) (k : IsMark row n) : m = n := by
  rcases Nat.lt_trichotomy m n with hh | hh | hh
  · have := h.2.2 n hh k.1; have := k.2.1; omega
  · exact hh
  · have := k.2.2 m hh h.1; have := h.2.1; omega

theorem mark_byte : ∀ n : Fin 256, n.val ≠ 0 → 1 ≤ Lib.bitLen n.val ∧ Lib.bitLen n.val ≤ 8 ∧ (bitsOf 8 (n.val : Int)).getD (Lib.bitLen n.val - 1) 0 = 1 ∧ ∀ j : Fin 8, Lib.bitLen n.val ≤ j.val → (bitsOf 8 (n.val : Int)).getD j.val 0 = 0 := by decide +kernel

/-- where the mark of bytes lies -/
def markOf (zs : List Int) : Nat := 8 * (zs.length - 1) + Lib.bitLen (zs.getD (zs.length - 1) 0).toNat - 1

theorem markOf_spec {zs : List Int} (h : zs ≠ []) (hb : 0 ≤ zs.getD (zs.length - 1) 0 ∧ zs.getD (zs.length - 1) 0 < 256) (h0 : zs.getD (zs.length - 1) 0 ≠ 0) :
    IsMark (rowOf zs) (markOf zs) ∧ 1 ≤ Lib.bitLen (zs.getD (zs.length - 1) 0).toNat ∧ Lib.bitLen (zs.getD (zs.length - 1) 0).toNat ≤ 8 := by
  obtain ⟨z, hz⟩ : ∃ z, z = zs.getD (zs.length - 1) 0 := ⟨_, rfl⟩
  have hl : 0 < zs.length := by
    rcases Nat.eq_zero_or_pos zs.length with h' | h'
    · exact absurd (List.eq_nil_of_length_eq_zero h') h
    · exact h'
  unfold markOf
  rw [← hz] at hb h0 ⊢
  have hm := mark_byte ⟨z.toNat, by omega⟩ (by simp; omega)
  simp only [Int.toNat_of_nonneg hb.1] at hm
  obtain ⟨h1, h2, h3, h4⟩ := hm
  have hrow : rowOf zs = rowOf (zs.take (zs.length - 1)) ++ bitsOf 8 z := by
    have e : zs.take (zs.length - 1 + 1) = zs := List.take_of_length_le (by omega)
    rw [← e, List.take_succ_eq_append_getElem (by omega), rowOf_append]
    simp only [List.length_append, List.length_take, List.length_singleton]
    rw [show min (zs.length - 1) zs.length + 1 - 1 = zs.length - 1 from by omega]
    rw [List.take_append_of_le_length (by rw [List.length_take]; omega), List.take_take, Nat.min_self]
    congr 1
    rw [hz, List.getD_eq_getElem?_getD, List.getElem?_eq_getElem (by omega)]
    simp [rowOf]
  have hpl : (rowOf (zs.take (zs.length - 1))).length = 8 * (zs.length - 1) := by rw [rowOf_length, List.length_take]; omega
  refine ⟨⟨?_, ?_, ?_⟩, h1, h2⟩
  · rw [hrow, List.length_append, hpl, bitsOf_length]; omega
  · rw [hrow, List.getD_eq_getElem?_getD, List.getElem?_append_right (by omega), hpl, show 8 * (zs.length - 1) + Lib.bitLen z.toNat - 1 - 8 * (zs.length - 1) = Lib.bitLen z.toNat - 1 from by omega, ← List.getD_eq_getElem?_getD]
    exact h3
  · intro i hi hi2
    rw [hrow, List.length_append, hpl, bitsOf_length] at hi2
    rw [hrow, List.getD_eq_getElem?_getD, List.getElem?_append_right (by omega), hpl, ← List.getD_eq_getElem?_getD]
    exact h4 ⟨i - 8 * (zs.length - 1), by omega⟩ (by simp; omega)

/-- A reader from the end at block b, over bytes that lie in block g, if in any: 'left' bits are left. -/
def Bk (w : World) (b : Nat) (g : Option Nat) (zs : List Int) (left : Nat) : Prop :=
  g ≠ some b ∧ left ≤ 8 * zs.length ∧ zs.length ≤ 140737488351232 ∧ ∃ v E, v.ownBlock = g ∧
    w.heap[b]? = some (.cells #[v, .int .i64 left] E (0, 0)) ∧ Own .u8 5 0 w v zs

theorem Bk.fr {S : Nat → Prop} {w w' : World} {b : Nat} {g : Option Nat} {zs : List Int} {left : Nat} (h : Bk w b g zs left) (f : Fr S w w') (hb : ¬ S b) (hg : ∀ k, g = some k → ¬ S k) : Bk w' b g zs left := by
  obtain ⟨h1, h2, h3, v, E, rfl, h4, h5⟩ := h
  exact ⟨h1, h2, h3, v, E, rfl, f.heap hb h4, h5.fr f hg⟩
theorem Bk.keeps {w w' : World} {b : Nat} {g : Option Nat} {zs : List Int} {left : Nat} (h : Bk w b g zs left) (f : Keeps w w') : Bk w' b g zs left := h.fr f (fun h => h) (fun _ _ h => h)
theorem Bk.lt {w : World} {b : Nat} {g : Option Nat} {zs : List Int} {left : Nat} (h : Bk w b g zs left) : b < w.heap.size ∧ ∀ k, g = some k → k < w.heap.size := by
  obtain ⟨_, _, _, v, E, rfl, h4, h5⟩ := h
  exact ⟨(Array.getElem?_eq_some_iff.1 h4).1, fun k hk => (h5.lt k hk).2⟩

set_option maxHeartbeats 400000 in
theorem backLeft {w : World} {b : Nat} {g : Option Nat} {zs : List Int} {left : Nat} (h : Bk w b g zs left) :
    Calls Try.prog 33 #[.pointer (some ⟨b, 0, none⟩)] w fun e w' => e = .returned (.int .i64 left) ∧ w = w' := by
  obtain ⟨_, _, _, v, E, _, hheap, _⟩ := h
  have c1 := cell_of_row w b 1 _ E (0, 0) hheap
  simp at c1
  clear hheap
  go_enter Try.func33, Try.ntmps33
  go_wp2
  go_ret
  exact ⟨rfl, rfl⟩

set_option maxHeartbeats 1000000 in
theorem backTakeNo {w : World} {b : Nat} {g : Option Nat} {zs : List Int} {left : Nat} {n : Int} (h : Bk w b g zs left) (hm : mayS n left ≠ 0) :
    Calls Try.prog 32 #[.pointer (some ⟨b, 0, none⟩), .int .i64 n] w fun e w' => e = .returned (.tuple #[.int .i64 0, .int .i64 (mayS n left)]) ∧ w = w' := by
  obtain ⟨_, _, _, v, E, _, hheap, _⟩ := h
  have c1 := cell_of_row w b 1 _ E (0, 0) hheap
  simp at c1
  obtain ⟨m, hme⟩ : ∃ m, m = mayS n left := ⟨_, rfl⟩
  rw [← hme] at hm ⊢
  have hm1 : (m == 0) = false := by simpa using hm
  have hm2 : (m != 0) = true := by simpa using hm
  have HM := Lib.hid hme
  clear hme hm hheap
  go_enter Try.func32, Try.ntmps32
  go_wp2_with fail
  refine (mayOf _ _ _).mono ?_
  rintro e w1 ⟨rfl, rfl⟩
  rw [← HM.out]
  go_wp2
  go_ret2
  exact ⟨rfl, rfl⟩

set_option maxHeartbeats 1000000 in
theorem backTake {w : World} {b : Nat} {g : Option Nat} {zs : List Int} {left : Nat} {n : Nat} (h : Bk w b g zs left) (hn : n ≤ 32) (hl : n ≤ left) :
    Calls Try.prog 32 #[.pointer (some ⟨b, 0, none⟩), .int .i64 n] w fun e w' => e = .returned (.tuple #[.int .i64 (val (((rowOf zs).drop (left - n)).take n)), .int .i64 0]) ∧ Bk w' b g zs (left - n) ∧ Fr (fun k => k = b) w w' := by
  obtain ⟨hgb, hlz, hz, v, E, hv, hheap, hown⟩ := h
  obtain ⟨a, c, hva⟩ := hown.form
  have hm : mayS (n : Int) left = 0 := by rw [mayS, if_neg (by omega), if_neg (by omega)]
  have HM := Lib.hid hm
  have c0 := cell_of_row w b 0 _ E (0, 0) hheap
  have c1 := cell_of_row w b 1 _ E (0, 0) hheap
  have f1 := frozen_no hheap 1
  simp at c0 c1
  have H2 := Lib.hid hheap
  have HI := Lib.hid hown
  have HV := Lib.hid hva
  clear hheap hown hm hva
  go_enter Try.func32, Try.ntmps32
  go_wp2_with fail
  refine (mayOf _ _ _).mono ?_
  rintro e w1 ⟨rfl, rfl⟩
  rw [HM.out]
  go_wp2_with fail
  have hfr : Fr (fun k => k = b) w (w.setCell ⟨b, 1, none⟩ (.int .i64 ((left : Int) - n))) := Fr.setAt (S := fun k => k = b) (Fr.refl _ _) rfl _ _
  have hH2 := heap_set H2.out 1 (.int .i64 ((left : Int) - n))
  generalize w.setCell ⟨b, 1, none⟩ (.int .i64 ((left : Int) - n)) = W at hfr hH2 ⊢
  obtain ⟨m, hme⟩ : ∃ m : Nat, m = left - n := ⟨_, rfl⟩
  have hmi : (left : Int) - n = (m : Int) := by omega
  rw [hmi] at hH2
  have d0 := cell_of_row W b 0 _ E (0, 0) hH2
  have d1 := cell_of_row W b 1 _ E (0, 0) hH2
  simp at d0 d1
  have hown2 := HI.out.fr hfr (fun k hk h => hgb (by rw [← hv, hk, h]))
  have HO := Lib.hid hown2
  have HFR := Lib.hid hfr
  have HH2 := Lib.hid hH2
  have HME := Lib.hid hme
  have hmz : m + n ≤ 8 * zs.length := by omega
  clear c0 c1 f1 hown2 hfr hH2 hme
  go_quiet ((go_at_call 36; exact Calls.quiet_of_same ((numberAt (at_ := m) (by exact (HO.out.keeps (by repeat (first | exact Fr.refl _ _ | apply Fr.drew | apply Fr.drewN))).ints) hmz hz hn).mono fun _ _ h => ⟨h.1, h.2.symm⟩)))
  go_wp2
  go_ret2
  go_light
  rw [← HME.out]
  refine ⟨rfl, ⟨hgb, by omega, hz, v, E, hv, ?_, HO.out.keeps ((Fr.refl _ _).drewN _)⟩, HFR.out.drewN _⟩
  rw [heap_drewN HH2.out]
  simp

set_option maxHeartbeats 400000 in
theorem newBackNo {v : Value} {zs : List Int} {w : World} (h : Ints .u8 w v zs) (h0 : zs = [] ∨ zs.getD (zs.length - 1) 0 = 0) :
    Calls Try.prog 29 #[v] w fun e w' => e = .returned (.tuple #[.pointer none, .int .i64 3]) ∧ w = w' := by
  by_cases hnil : zs = []
  · subst hnil
    obtain ⟨a, c, rfl⟩ := h.form
    clear h h0
    go_enter Try.func29, Try.ntmps29
    go_wp2
    go_ret2
    exact ⟨rfl, rfl⟩
  · have hl : 0 < zs.length := by
      rcases Nat.eq_zero_or_pos zs.length with h' | h'
      · exact absurd (List.eq_nil_of_length_eq_zero h') hnil
      · exact h'
    have hz0 : zs.getD (zs.length - 1) 0 = 0 := h0.resolve_left hnil
    obtain ⟨_, a, c, rfl, _, hcm, _, hc⟩ := h
    obtain ⟨b, off, rfl, hcell⟩ := hc (zs.length - 1) (by omega)
    rw [hz0] at hcell
    obtain ⟨n, hn⟩ : ∃ n, n = zs.length := ⟨_, rfl⟩
    rw [← hn] at hcell hl ⊢
    unfold maxLen at hcm
    have hn64 : n ≤ 9223372036854775807 := by omega
    clear hc hz0 h0 hnil hn hcm
    have hne : ((n : Int) == 0) = false := by simp; omega
    go_enter Try.func29, Try.ntmps29
    go_wp2
    go_ret2
    exact ⟨rfl, rfl⟩

set_option maxRecDepth 100000 in
set_option maxHeartbeats 2000000 in
theorem newBack {v : Value} {zs : List Int} {w : World} (h : Ints .u8 w v zs) (hz : zs.length ≤ 140737488351232) (hnil : zs ≠ []) (h0 : zs.getD (zs.length - 1) 0 ≠ 0) :
    Calls Try.prog 29 #[v] w fun e w' => ∃ b g, e = .returned (.tuple #[.pointer (some ⟨b, 0, none⟩), .int .i64 0]) ∧ w.heap.size ≤ b ∧ (∀ k, g = some k → w.heap.size ≤ k) ∧ Bk w' b g zs (markOf zs) ∧ Keeps w w' := by
  have hl : 0 < zs.length := by
    rcases Nat.eq_zero_or_pos zs.length with h' | h'
    · exact absurd (List.eq_nil_of_length_eq_zero h') hnil
    · exact h'
  have hbz := ints_byte h.1 (show zs.length - 1 < zs.length by omega)
  have hmark := markOf_spec hnil hbz h0
  have HI := Lib.hid h
  obtain ⟨_, a, c, rfl, hnc, hcm, _, hc⟩ := h
  obtain ⟨b, off, rfl, hcell⟩ := hc (zs.length - 1) (by omega)
  obtain ⟨z, hze⟩ : ∃ z, z = zs.getD (zs.length - 1) 0 := ⟨_, rfl⟩
  obtain ⟨L, hL⟩ : ∃ L, L = Lib.bitLen z.toNat := ⟨_, rfl⟩
  have hmo : markOf zs = 8 * (zs.length - 1) + L - 1 := by rw [hL, hze]; rfl
  rw [← hze] at hcell h0 hbz hmark
  rw [← hL] at hmark
  obtain ⟨n, hn⟩ : ∃ n, n = zs.length := ⟨_, rfl⟩
  rw [← hn] at hcell hl hz HI hmo hnc ⊢
  have hL1 := hmark.2.1
  have hL8 := hmark.2.2
  have HN := Lib.hid hn
  have HMO := Lib.hid hmo
  have HLL := Lib.hid hL
  have hblk : b < w.heap.size := World.block_lt_of_cell? w _ hcell
  have hne : ((n : Int) == 0) = false := by simp; omega
  have hze0 : (z == 0) = false := by simpa using h0
  have hw1 : IntKind.i64.wrap ((n : Int) - 1) = (n : Int) - 1 := wraps_i64 _ (by omega) (by omega)
  have hw2 : IntKind.i64.wrap (8 * ((n : Int) - 1)) = 8 * ((n : Int) - 1) := wraps_i64 _ (by omega) (by omega)
  have hw3 : IntKind.i64.wrap (8 * ((n : Int) - 1) + L) = 8 * ((n : Int) - 1) + L := wraps_i64 _ (by omega) (by omega)
  have hw4 : IntKind.i64.wrap (8 * ((n : Int) - 1) + L - 1) = 8 * ((n : Int) - 1) + L - 1 := wraps_i64 _ (by omega) (by omega)
  have hn0 : (0 : Int) ≤ (n : Int) - 1 := by omega
  have hn2 : (1 : Int) ≤ (n : Int) := by omega
  have hn3 : 1 ≤ n := by omega
  have hn1 : (n : Int) - 1 < (n : Int) := by omega
  have ht : ((n : Int) - 1).toNat = n - 1 := by omega
  clear hc hnil hze hmo hn h0 hmark hcm hL
  obtain ⟨hz0, hz1⟩ := hbz
  go_enter Try.func29, Try.ntmps29
  go_wp2_with fail
  go_region_held3 (fun w' => w'.cell? ⟨b, off + (n - 1), none⟩ = some (.int .u8 z)) (first | go_keep | exact e0) (first | (refine step_ints rfl _ _ (by rfl) elemB (.slice none 0 0) (by rfl) (by rfl) (Own.nil .u8 5 w.heap.size _) (by exact HI.out.keeps (by repeat (first | exact Fr.refl _ _ | apply Fr.drew | apply Fr.drewN))) (by rw [← HN.out]; simp; omega) (by simp) ?_; intro v2 w2 hown2 hfr2 hat2; have e0 := hfr2.cell (p := ⟨b, off + (n - 1), none⟩) (by simp [Value.ownBlock]) hcell; obtain ⟨a2, c2, rfl⟩ := hown2.form) | (go_at_call 37; refine (bitsLen8 z _ hz0 (by omega)).mono ?_; rintro e w' ⟨rfl, rfl⟩; rw [← HLL.out]))
  go_wp2
  go_ret2
  go_light
  simp only [List.nil_append] at hown2
  have hk : Keeps w w' := (Fr.refl _ w).drew.trans (hfr2.mono (T := fun _ => False) fun i hi h => by simp [Value.ownBlock] at h) (fun _ _ h => h)
  have hlt := hown2.lt
  refine ⟨w'.heap.size, (Value.slice a2 zs.length c2).ownBlock, rfl, hk.size, fun k hk' => (hlt k hk').1, ⟨?_, ?_, by rw [← HN.out]; exact hz, _, 69, rfl, ?_, (hown2.mono (Nat.zero_le _)).keeps ((Fr.refl _ _).alloc _)⟩, Fr.alloc hk _⟩
  · intro h
    have := (hlt _ h).2
    omega
  · rw [HMO.out, ← HN.out]; omega
  · rw [heap_alloc_new, HMO.out]
    have e : (8 * ((n : Int) - 1) + L - 1) = ((8 * (n - 1) + L - 1 : Nat) : Int) := by omega
    rw [e]
end Go.Proofs.Ytbbldbdmnaielaa
