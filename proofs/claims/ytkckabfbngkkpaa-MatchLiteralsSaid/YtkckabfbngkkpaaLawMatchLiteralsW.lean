/- MatchLiterals: the walk. -/
import Derived.Test.YtkckabfbngkkpaaRefLit
import Derived.Test.YtkckabfbngkkpaaLivesM
import Derived.Test.YtkckabfbngkkpaaSame
namespace Go.Proofs.Ytkckabfbngkkpaa
open Go.RowKit

set_option maxRecDepth 100000 in
set_option maxHeartbeats 2000000 in
theorem walkMatchLiterals {v u : Value} {zs : List Int} {qs : List (List Int)} {w : World} (h : Ints .u8 w v zs) (hz : zs.length ≤ 140737488351232) (hq : Recs 3 w u qs) (hqn : qs.length ≤ 5864062014634) :
    Calls Try.prog 6 #[v, u] w fun e w' => e = .returned (.bool true) ∧ Keeps w w' := by
  have HI := Lib.hid h
  have HQ := Lib.hid hq
  clear h hq
  go_enter Try.func6, Try.ntmps6
  go_wp2_with fail
  refine (matchLiterals HI.out hz HQ.out hqn).mono ?_
  rintro e w2 ⟨v2, rfl, ho2, k2⟩
  have HO2 := Lib.hid ho2
  have K2 := Lib.hid k2
  clear ho2 k2
  go_wp2_with fail
  refine (refLiterals (HI.out.keeps K2.out) hz (HQ.out.keeps K2.out) hqn).mono ?_
  rintro e w3 ⟨v3, rfl, ho3, k3⟩
  have HO3 := Lib.hid ho3
  have K3 : Hid (Keeps w w3) := K2.out.keeps k3
  have hsm := refSame (HO2.out.ints.keeps k3) ho3.ints
  rw [decide_eq_true rfl] at hsm
  have HSM := Lib.hid hsm
  clear ho3 k3 hsm
  go_wp2_with fail
  refine HSM.out.mono ?_
  rintro e w4 ⟨rfl, k4⟩
  have K4 : Hid (Keeps w w4) := K3.out.keeps k4
  have heq : (((litS qs zs []).2) == ((litS qs zs []).2)) = true := by simp
  generalize (litS qs zs []).2 = r at *
  clear k4
  go_wp2_with (go_at_call 12; refine (livesMatch _).mono ?_; rintro e w7 ⟨rfl, k7⟩; have K7 := Lib.hid k7; clear k7)
  go_ret
  go_light
  exact ⟨rfl, K4.out.keeps K7.out⟩
end Go.Proofs.Ytkckabfbngkkpaa
