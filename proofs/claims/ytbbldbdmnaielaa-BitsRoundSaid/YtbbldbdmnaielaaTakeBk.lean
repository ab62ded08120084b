/- Reading from the end, the program's and the reference's, whatever is asked, as takings of a row. -/
import Derived.Test.YtbbldbdmnaielaaRefBack
import Derived.Test.YtbbldbdmnaielaaTakeS
namespace Go.Proofs.Ytbbldbdmnaielaa
open Go.RowKit

/-- A reader from the end at block b (its bytes in block g, if in any): the row bs is left. -/
def BkRow (w : World) (b : Nat) (g : Option Nat) (bs : List Int) : Prop := ∃ zs left, bs = (rowOf zs).take left ∧ Bk w b g zs left

theorem BkRow.bin {w : World} {b : Nat} {g : Option Nat} {bs : List Int} (h : BkRow w b g bs) : Bin bs := by
  obtain ⟨zs, left, rfl, _⟩ := h
  exact (rowOf_bin zs).init left
theorem BkRow.fr {S : Nat → Prop} {w w' : World} {b : Nat} {g : Option Nat} {bs : List Int} (h : BkRow w b g bs) (f : Fr S w w') (hb : ¬ S b) (hg : ∀ k, g = some k → ¬ S k) : BkRow w' b g bs := by
  obtain ⟨zs, left, e, h⟩ := h
  exact ⟨zs, left, e, h.fr f hb hg⟩
theorem BkRow.keeps {w w' : World} {b : Nat} {g : Option Nat} {bs : List Int} (h : BkRow w b g bs) (f : Keeps w w') : BkRow w' b g bs := h.fr f (fun h => h) (fun _ _ h => h)
theorem BkRow.lt {w : World} {b : Nat} {g : Option Nat} {bs : List Int} (h : BkRow w b g bs) : b < w.heap.size ∧ ∀ k, g = some k → k < w.heap.size := by
  obtain ⟨_, _, _, h⟩ := h
  exact h.lt
theorem BkRow.ne {w : World} {b : Nat} {g : Option Nat} {bs : List Int} (h : BkRow w b g bs) : g ≠ some b := by
  obtain ⟨_, _, _, h⟩ := h
  exact h.1

theorem bkLeft {w : World} {b : Nat} {g : Option Nat} {bs : List Int} (h : BkRow w b g bs) :
    Calls Try.prog 33 #[.pointer (some ⟨b, 0, none⟩)] w fun e w' => e = .returned (.int .i64 bs.length) ∧ w = w' := by
  obtain ⟨zs, left, rfl, h⟩ := h
  refine (backLeft h).mono ?_
  rintro e w' ⟨rfl, rfl⟩
  have h1 := h.2.1
  have h2 : ((rowOf zs).take left).length = left := by rw [List.length_take, rowOf_length]; omega
  rw [h2]
  exact ⟨rfl, rfl⟩

theorem bkTake {w : World} {b : Nat} {g : Option Nat} {bs : List Int} {n : Int} (h : BkRow w b g bs) :
    Calls Try.prog 32 #[.pointer (some ⟨b, 0, none⟩), .int .i64 n] w fun e w' => e = .returned (.tuple #[.int .i64 (backS bs n).1, .int .i64 (backS bs n).2.2]) ∧ BkRow w' b g (backS bs n).2.1 ∧ Fr (fun k => k = b) w w' := by
  obtain ⟨zs, left, rfl, h⟩ := h
  have h1 := h.2.1
  have hl : ((rowOf zs).take left).length = left := by rw [List.length_take, rowOf_length]; omega
  by_cases hm : mayS n ((rowOf zs).take left).length = 0
  · obtain ⟨h0, h32, hL⟩ := mayS_ok hm
    obtain ⟨m, rfl⟩ := Int.eq_ofNat_of_zero_le h0
    rw [backS_ok hm, Int.toNat_natCast, hl]
    refine (backTake h (by omega) (by omega)).mono ?_
    rintro e w' ⟨rfl, hr, hf⟩
    refine ⟨?_, ⟨zs, left - m, by rw [List.take_take, Nat.min_eq_left (by omega)], hr⟩, hf⟩
    rw [List.drop_take, show left - (left - m) = m from by omega]
  · rw [backS_no hm, hl]
    rw [hl] at hm
    refine (backTakeNo h hm).mono ?_
    rintro e w' ⟨rfl, rfl⟩
    exact ⟨rfl, ⟨zs, left, rfl, h⟩, Fr.refl _ _⟩

theorem refBackAny {v : Value} {bs : List Int} {w : World} {n : Int} (h : Ints .i64 w v bs) (hbin : Bin bs) (hz : bs.length ≤ 9000000000000) :
    Calls Try.prog 31 #[v, .int .i64 n] w fun e w' => ∃ v', e = .returned (.tuple #[.int .i64 (backS bs n).1, v', .int .i64 (backS bs n).2.2]) ∧ Ints .i64 w' v' (backS bs n).2.1 ∧ v'.ownBlock = v.ownBlock ∧ Keeps w w' := by
  by_cases hm : mayS n bs.length = 0
  · obtain ⟨h0, h32, hL⟩ := mayS_ok hm
    obtain ⟨m, rfl⟩ := Int.eq_ofNat_of_zero_le h0
    rw [backS_ok hm, Int.toNat_natCast]
    exact refTakeBack h hbin hz (by omega) (by omega)
  · rw [backS_no hm]
    refine (refTakeBackNo h hm).mono ?_
    rintro e w' ⟨rfl, rfl⟩
    exact ⟨v, rfl, h, rfl, Fr.refl _ _⟩
end Go.Proofs.Ytbbldbdmnaielaa
