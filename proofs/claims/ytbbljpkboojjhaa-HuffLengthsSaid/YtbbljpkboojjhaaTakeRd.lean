/- The reader's Take and Left, whatever is asked, as takings of a row. -/
import Derived.Test.YtbbljpkboojjhaaReader
import Derived.Test.YtbbljpkboojjhaaTakeS
namespace Go.Proofs.Ytbbljpkboojjhaa
open Go.RowKit

/-- A reader at block b (its bytes in block g, if in any): the row bs is left. -/
def RdRow (w : World) (b : Nat) (g : Option Nat) (bs : List Int) : Prop := ∃ zs at_, bs = (rowOf zs).drop at_ ∧ Rd w b g zs at_

theorem RdRow.bin {w : World} {b : Nat} {g : Option Nat} {bs : List Int} (h : RdRow w b g bs) : Bin bs := by
  obtain ⟨zs, at_, rfl, _⟩ := h
  exact (rowOf_bin zs).tail at_
theorem RdRow.fr {S : Nat → Prop} {w w' : World} {b : Nat} {g : Option Nat} {bs : List Int} (h : RdRow w b g bs) (f : Fr S w w') (hb : ¬ S b) (hg : ∀ k, g = some k → ¬ S k) : RdRow w' b g bs := by
  obtain ⟨zs, at_, e, h⟩ := h
  exact ⟨zs, at_, e, h.fr f hb hg⟩
theorem RdRow.keeps {w w' : World} {b : Nat} {g : Option Nat} {bs : List Int} (h : RdRow w b g bs) (f : Keeps w w') : RdRow w' b g bs := h.fr f (fun h => h) (fun _ _ h => h)
theorem RdRow.lt {w : World} {b : Nat} {g : Option Nat} {bs : List Int} (h : RdRow w b g bs) : b < w.heap.size ∧ ∀ k, g = some k → k < w.heap.size := by
  obtain ⟨_, _, _, h⟩ := h
  exact h.lt
theorem RdRow.ofRd {w : World} {b : Nat} {g : Option Nat} {zs : List Int} (h : Rd w b g zs 0) : RdRow w b g (rowOf zs) := ⟨zs, 0, by simp, h⟩
theorem RdRow.ne {w : World} {b : Nat} {g : Option Nat} {bs : List Int} (h : RdRow w b g bs) : g ≠ some b := by
  obtain ⟨_, _, _, h⟩ := h
  exact h.1

theorem rdLeft {w : World} {b : Nat} {g : Option Nat} {bs : List Int} (h : RdRow w b g bs) :
    Calls Try.prog 30 #[.pointer (some ⟨b, 0, none⟩)] w fun e w' => e = .returned (.int .i64 bs.length) ∧ ∃ k, w' = w.drewN k := by
  obtain ⟨zs, at_, rfl, h⟩ := h
  refine (readerLeft h).mono ?_
  rintro e w' ⟨rfl, hk⟩
  refine ⟨?_, hk⟩
  have h1 := h.2.1
  have h2 : (((rowOf zs).drop at_).length : Int) = 8 * zs.length - at_ := by rw [List.length_drop, rowOf_length]; omega
  rw [h2]

theorem rdTake {w : World} {b : Nat} {g : Option Nat} {bs : List Int} {n : Int} (h : RdRow w b g bs) :
    Calls Try.prog 29 #[.pointer (some ⟨b, 0, none⟩), .int .i64 n] w fun e w' => e = .returned (.tuple #[.int .i64 (takeS bs n).1, .int .i64 (takeS bs n).2.2]) ∧ RdRow w' b g (takeS bs n).2.1 ∧ Fr (fun k => k = b) w w' := by
  obtain ⟨zs, at_, rfl, h⟩ := h
  have h1 := h.2.1
  have hl : ((rowOf zs).drop at_).length = 8 * zs.length - at_ := by rw [List.length_drop, rowOf_length]
  have h2 : (((rowOf zs).drop at_).length : Int) = 8 * zs.length - at_ := by omega
  by_cases hm : mayS n ((rowOf zs).drop at_).length = 0
  · obtain ⟨h0, h32, hL⟩ := mayS_ok hm
    obtain ⟨m, rfl⟩ := Int.eq_ofNat_of_zero_le h0
    rw [takeS_ok hm, Int.toNat_natCast]
    refine (readerTake h (by omega) (by omega)).mono ?_
    rintro e w' ⟨rfl, hr, hf⟩
    exact ⟨rfl, ⟨zs, at_ + m, by rw [List.drop_drop], hr⟩, hf⟩
  · rw [takeS_no hm]
    refine (readerTakeNo h (by rw [← h2]; exact hm)).mono ?_
    rintro e w' ⟨rfl, hk⟩
    exact ⟨by rw [h2], ⟨zs, at_, rfl, h.keeps hk⟩, hk.fr⟩
end Go.Proofs.Ytbbljpkboojjhaa
