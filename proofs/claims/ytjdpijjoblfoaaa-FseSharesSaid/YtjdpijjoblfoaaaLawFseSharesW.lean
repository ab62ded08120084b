/- FseShares: the walk. -/
import Derived.Test.YtjdpijjoblfoaaaFseLives
import Derived.Test.YtjdpijjoblfoaaaShareR
import Derived.Test.YtjdpijjoblfoaaaNumbers
namespace Go.Proofs.Ytjdpijjoblfoaaa
open Go.RowKit

set_option maxRecDepth 100000 in
set_option maxHeartbeats 4000000 in
theorem walkFseShares {v : Value} {cs : List Int} {log : Int} {w : World} (h : Ints .i64 w v cs) (hw : -9223372036854775808 ≤ log ∧ log ≤ 9223372036854775807) :
    Calls Try.prog 3 #[v, .int .i64 log] w fun e w' => e = .returned (.bool true) ∧ Keeps w w' := by
  have HV := Lib.hid h
  obtain ⟨a, cap, rfl⟩ := h.form
  obtain ⟨N, hN⟩ : ∃ N, N = cs.length := ⟨_, rfl⟩
  rw [← hN] at HV ⊢
  have herr : (shareS cs log).2 = 0 ∨ (shareS cs log).2 = 1 := by unfold shareS; split <;> simp
  obtain ⟨r, hr⟩ : ∃ r, r = shareS cs log := ⟨_, rfl⟩
  rw [← hr] at herr
  obtain ⟨X, E⟩ := r
  have HR := Lib.hid hr
  clear h hN hr
  simp only at herr
  go_enter Try.func3, Try.ntmps3
  go_wp2_with fail
  refine (fseShare HV.out hw).mono ?_
  rw [← HR.out]
  rintro e1 w1 ⟨x1, rfl, ho1, k1⟩
  have HI1 := Lib.hid ho1.ints
  have K1 := Lib.hid k1
  obtain ⟨a1, c1, rfl⟩ := ho1.form
  clear ho1 k1
  go_wp2_with fail
  refine (refShare (HV.out.keeps K1.out) hw).mono ?_
  rw [← HR.out]
  rintro e2 w2 ⟨x2, rfl, ho2, k2⟩
  have HI2 := Lib.hid ho2.ints
  have K2 := Lib.hid k2
  obtain ⟨a2, c2, rfl⟩ := ho2.form
  clear ho2 k2
  go_wp2_with fail
  refine (numbersOf (HI1.out.keeps K2.out) HI2.out).mono ?_
  rw [decide_eq_true rfl]
  rintro e3 w3 ⟨rfl, k3⟩
  have K3 : Hid (Keeps w w3) := (K1.out.keeps K2.out).keeps k3
  clear k3
  rcases herr with herr | herr
  all_goals
    subst herr
    go_wp2_with (go_at_call 12; refine (livesFse _).mono ?_; rintro e w7 ⟨rfl, k7⟩; have K7 := Lib.hid k7; clear k7)
    go_ret
    go_light
    exact ⟨rfl, K3.out.keeps K7.out⟩
end Go.Proofs.Ytjdpijjoblfoaaa
