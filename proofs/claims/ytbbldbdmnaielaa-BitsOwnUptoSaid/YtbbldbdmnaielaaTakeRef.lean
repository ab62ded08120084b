/- The reference's Take, whatever is asked. -/
import Derived.Test.YtbbldbdmnaielaaRefTake
import Derived.Test.YtbbldbdmnaielaaTakeS
namespace Go.Proofs.Ytbbldbdmnaielaa
open Go.RowKit

theorem refTakeAny {v : Value} {bs : List Int} {w : World} {n : Int} (h : Ints .i64 w v bs) (hbin : Bin bs) (hz : bs.length ≤ 9000000000000) :
    Calls Try.prog 26 #[v, .int .i64 n] w fun e w' => ∃ v', e = .returned (.tuple #[.int .i64 (takeS bs n).1, v', .int .i64 (takeS bs n).2.2]) ∧ Ints .i64 w' v' (takeS bs n).2.1 ∧ v'.ownBlock = v.ownBlock ∧ Keeps w w' := by
  by_cases hm : mayS n bs.length = 0
  · obtain ⟨h0, h32, hL⟩ := mayS_ok hm
    obtain ⟨m, rfl⟩ := Int.eq_ofNat_of_zero_le h0
    rw [takeS_ok hm, Int.toNat_natCast]
    exact refTake h hbin hz (by omega) (by omega)
  · rw [takeS_no hm]
    refine (refTakeNo h hm).mono ?_
    rintro e w' ⟨rfl, rfl⟩
    exact ⟨v, rfl, h, rfl, Fr.refl _ _⟩
end Go.Proofs.Ytbbldbdmnaielaa
