/- The writer's Len. -/
import Derived.Test.YtbbldbdmnaielaaWriter
namespace Go.Proofs.Ytbbldbdmnaielaa
open Go.RowKit

theorem writerLen {w : World} {b : Nat} {g : Option Nat} {rs : List Int} (h : Wr w b g rs) (hl : rs.length ≤ 281474976710600) :
    Calls Try.prog 17 #[.pointer (some ⟨b, 0, none⟩)] w fun e w' => e = .returned (.int .i64 rs.length) ∧ Keeps w w' := by
  obtain ⟨hb, hg, v, E, hv, hheap, hown⟩ := h
  obtain ⟨hwf, a, cap, rfl, _, _, _, _⟩ := hown.ints
  have c0 := cell_of_row w b 0 _ E (0, 0) hheap
  have c2 := cell_of_row w b 2 _ E (0, 0) hheap
  have hp : (pack (rs.take (8 * (rs.length / 8)))).length = rs.length / 8 := by rw [pack_length, List.length_take]; omega
  obtain ⟨q, hq⟩ : ∃ q, q = rs.length / 8 := ⟨_, rfl⟩
  obtain ⟨r, hr⟩ : ∃ r, r = rs.length % 8 := ⟨_, rfl⟩
  rw [hp, ← hq] at c0
  rw [← hr] at c2
  have HL : Hid (rs.length = 8 * q + r) := by show _ = _; omega
  have hq1 : q ≤ 281474976710600 := by omega
  have hr1 : r < 8 := by omega
  simp at c0 c2
  clear hheap hown hwf hv hp hl hq hr
  go_enter Try.func17, Try.ntmps17
  go_wp2
  go_quiet (fail)
  go_wp2
  go_ret
  exact ⟨by rw [HL.out]; rfl, (Fr.refl _ _).drewN _⟩

end Go.Proofs.Ytbbldbdmnaielaa
