/- Run of a bound that may not be: refused, by the program and by the reference. -/
import Derived.Test.YtkckabfbngkkpaaRefRun
namespace Go.Proofs.Ytkckabfbngkkpaa
open Go.RowKit

theorem matchRunNo {w : World} {u v : Value} {most : Int} (hm : most < 0 ∨ 65536 < most) :
    Calls Try.prog 13 #[u, v, .int .i64 most] w fun e w' => e = .returned (.tuple #[.slice none 0 0, .int .i64 1]) ∧ w' = w := by
  have hor : most < 0 ∨ (0 ≤ most ∧ 65536 < most) := by omega
  clear hm
  rcases hor with h | ⟨h1, h2⟩
  all_goals
    go_enter Try.func13, Try.ntmps13
    go_wp2_with fail
    go_ret2
    exact ⟨rfl, rfl⟩
theorem refRunNo {w : World} {u v : Value} {most : Int} (hm : most < 0 ∨ 65536 < most) :
    Calls Try.prog 14 #[u, v, .int .i64 most] w fun e w' => e = .returned (.tuple #[.slice none 0 0, .int .i64 1]) ∧ w' = w := by
  have hor : most < 0 ∨ (0 ≤ most ∧ 65536 < most) := by omega
  clear hm
  rcases hor with h | ⟨h1, h2⟩
  all_goals
    go_enter Try.func14, Try.ntmps14
    go_wp2_with fail
    go_ret2
    exact ⟨rfl, rfl⟩
end Go.Proofs.Ytkckabfbngkkpaa
