/- The writer's Marked: the bytes of the row with one bit 1 behind. -/
import Derived.Test.YtbbldbdmnaielaaWriter
namespace Go.Proofs.Ytbbldbdmnaielaa
open Go.RowKit
set_option maxHeartbeats 2000000 in
theorem writerMarked {w : World} {b : Nat} {g : Option Nat} {rs : List Int} (h : Wr w b g rs) (hl : rs.length ≤ 281474976709000) :
    Calls Try.prog 21 #[.pointer (some ⟨b, 0, none⟩)] w fun e w' => ∃ v, e = .returned v ∧ Own .u8 5 w.heap.size w' v (pack (rs ++ [1])) ∧ Keeps w w' := by
  obtain ⟨hb, hg, v, E, hv, hheap, hown⟩ := h
  obtain ⟨a, c, hva⟩ := hown.form
  have hin := hown.ints
  subst hva
  have hp : (pack (rs.take (8 * (rs.length / 8)))).length = rs.length / 8 := by rw [pack_length, List.length_take]; omega
  obtain ⟨PK, hPK⟩ : ∃ PK, PK = pack (rs.take (8 * (rs.length / 8))) := ⟨_, rfl⟩
  rw [← hPK] at hheap hin hp
  obtain ⟨Z, hZ⟩ : ∃ Z, Z = PK.length := ⟨_, rfl⟩
  have hroom : PK.length ≤ 40000000000000 := by omega
  rw [← hZ] at hheap hin hp
  obtain ⟨A, hA⟩ : ∃ A, A = val (rs.drop (8 * (rs.length / 8))) := ⟨_, rfl⟩
  obtain ⟨r, hr⟩ : ∃ r, r = rs.length % 8 := ⟨_, rfl⟩
  rw [← hA, ← hr] at hheap
  have c0 := cell_of_row w b 0 _ E (0, 0) hheap
  have c1 := cell_of_row w b 1 _ E (0, 0) hheap
  have c2 := cell_of_row w b 2 _ E (0, 0) hheap
  simp at c0 c1 c2
  have hbs : b < w.heap.size := World.block_lt_of_cell? w _ c0
  have HIN := Lib.hid hin
  have HA := Lib.hid hA
  have HR := Lib.hid hr
  have HZ := Lib.hid hZ
  have HP := Lib.hid hp
  have HK := Lib.hid hPK
  have HB := Lib.hid hb
  have HRM := Lib.hid hroom
  clear hheap hin hA hr hZ hown hp hv hPK hg hb hroom
  go_enter Try.func21, Try.ntmps21
  go_wp2_with (at_builtin; go_loud (refine wpList_ints rfl (.const (.slice none 0 0)) (.tmp 10) rfl elemB (.slice none 0 0) rfl rfl (Own.nil .u8 5 w.heap.size _) (HIN.out.keeps ((Fr.refl _ _).alloc _)) (by have := HRM.out; simp; omega) (by simp) ?_); intro v1 w1 hown1 hfr1 hat1; simp only [List.nil_append] at hown1; obtain ⟨a1, k1, hv1⟩ := hown1.form; subst hv1; have hh1 := hfr1.heap (by simp [Value.ownBlock]) (heap_alloc_new w _); have f10 := frozen_no hh1 0; have e0 := cell_of_row _ _ 0 _ _ _ hh1; simp at e0; have HH := Lib.hid hh1; have HO := Lib.hid hown1; have HF := Lib.hid hfr1; have HT := Lib.hid hat1; clear hh1 hown1 hfr1 hat1)
  have hg1 : (Value.slice a1 PK.length k1).ownBlock ≠ some w.heap.size := fun h => by have := HO.out.lt _ h; have := HT.out; rw [h] at this; simp [Value.ownBlock] at this
  have hfs : ∀ u, Fr (fun k => k = w.heap.size) w1 (w1.setCell ⟨w.heap.size, 0, none⟩ u) := fun u => Fr.setAt (S := fun k => k = w.heap.size) (Fr.refl _ _) rfl 0 u
  have hk1 : Keeps w w1 := ((Fr.refl _ w).alloc _).trans HF.out (fun i hi h => by simp [Value.ownBlock] at h)
  have hk2 : ∀ u, Keeps w (w1.setCell ⟨w.heap.size, 0, none⟩ u) := fun u => hk1.trans (hfs u) (fun i hi h => by omega)
  have hlt2 := HO.out.lt
  refine (writerPut (g := (Value.slice a1 PK.length k1).ownBlock) (rs := rs) (n := 1) (x := 1) ⟨HB.out, hg1, .slice a1 PK.length k1, _, rfl, (heap_set HH.out 0 _).trans (by rw [← HA.out, ← HR.out]; simp; rfl), ?_⟩ (by omega) (by omega) (by omega) (by omega)).mono ?_
  · rw [← HK.out]; exact (HO.out.mono (Nat.zero_le _)).fr (hfs _) (fun k hk h => hg1 (by rw [hk, h]))
  rintro e w2 ⟨g', rfl, hW, hfr2, hg2⟩
  go_wp2_with fail
  refine (writerBytes hW (by rw [List.length_append, bitsOf_length]; omega)).mono ?_
  rintro e w3 ⟨v, rfl, hv3, hk3⟩
  go_wp2_with fail
  go_ret
  go_light
  have hkw : Keeps w w2 := (hk2 _).trans hfr2 (fun i hi h => by
    rcases h with h | h
    · omega
    · have := hlt2 i h; omega)
  refine ⟨v, rfl, ?_, hkw.keeps hk3⟩
  have e1 : bitsOf 1 1 = [1] := by decide
  rw [e1] at hv3
  exact hv3.mono hkw.size
end Go.Proofs.Ytbbldbdmnaielaa
