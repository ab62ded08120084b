/- MatchRound: the walk. -/
import Derived.Test.YtkckabfbngkkpaaLivesM
import Derived.Test.YtkckabfbngkkpaaSame
import Derived.Test.YtkckabfbngkkpaaLawMatchFindsW
namespace Go.Proofs.Ytkckabfbngkkpaa
open Go.RowKit

set_option maxRecDepth 100000 in
set_option maxHeartbeats 4000000 in
theorem walkMatchRound {v : Value} {zs : List Int} {win : Int} {w : World} (h : Ints .u8 w v zs) :
    Calls Try.prog 7 #[v, .int .i64 win] w fun e w' => e = .returned (.bool true) ∧ Keeps w w' := by
  have HT := Lib.hid h
  obtain ⟨va, vc, hv⟩ := h.form
  obtain ⟨Z, hZ⟩ : ∃ Z, Z = zs.length := ⟨_, rfl⟩
  rw [← hZ] at hv
  subst hv
  have hZc := h.len.2
  have HZ := Lib.hid hZ
  clear h
  by_cases hb : FindBad zs.length win
  · have HB := Lib.hid hb
    clear hb hZ
    go_enter Try.func7, Try.ntmps7
    go_wp2_with fail
    refine (matchFindNo HT.out HB.out).mono ?_
    rintro e w2 ⟨rfl, rfl⟩
    go_wp2_with (go_at_call 12; refine (livesMatch _).mono ?_; rintro e w7 ⟨rfl, k7⟩; have K7 := Lib.hid k7; clear k7)
    go_ret
    go_light
    exact ⟨rfl, K7.out⟩
  · unfold FindBad at hb
    obtain ⟨wn, rfl⟩ := Int.eq_ofNat_of_zero_le (show 0 ≤ win by omega)
    have hw1 : 1 ≤ wn := by omega
    have hw2 : wn ≤ 65536 := by omega
    have hz : Z ≤ 65536 := by omega
    have hln := findS_length zs wn zs.length 0 0 (by omega)
    have HL : Hid ((findS zs wn 0 0).length ≤ 1048576) := by have := HZ.out; show _ ≤ _; omega
    obtain ⟨x, hx1, hx2, _, hx4, hx5⟩ := round_law zs wn (zs.length - 0) 0 0 rfl (by omega) (by omega)
    simp only [Nat.sub_self, List.drop_zero, List.take_zero] at hx1 hx4 hx5
    have HX1 := Lib.hid (hx1 [])
    have HX2 : Hid (x.length ≤ Z) := by show _ ≤ _; omega
    have HX4 := Lib.hid (hx4 Z (by omega))
    have HX5 : Hid (0 < Z → runS ((Z : Int) - 1) (findS zs wn 0 0) x [] = ([], 11)) := fun h => hx5 _ (by omega)
    clear hb hln hx1 hx2 hx4 hx5 hZ
    go_enter Try.func7, Try.ntmps7
    go_wp2_with fail
    refine (matchFind HT.out (by rw [← HZ.out]; omega) hw1 hw2).mono ?_
    rintro e w2 ⟨v2, rfl, ho2, k2⟩
    have HR2 := Lib.hid ho2.recs
    have K2 := Lib.hid k2
    clear ho2 k2
    go_wp2_with fail
    refine (matchLiterals (HT.out.keeps K2.out) (by rw [← HZ.out]; omega) HR2.out HL.out).mono ?_
    rw [HX1.out]
    rintro e w3 ⟨v3, rfl, ho3, k3⟩
    rw [List.nil_append] at ho3
    have HI3 := Lib.hid ho3.ints
    have HR3 := Lib.hid (HR2.out.keeps k3)
    have K3 : Hid (Keeps w w3) := K2.out.keeps k3
    clear ho3 k3
    go_wp2_with fail
    refine (matchRun (most := (Z : Int)) HI3.out (by have := HX2.out; omega) HR3.out HL.out (by omega) (by omega)).mono ?_
    rw [HX4.out]
    rintro e w4 ⟨v4, rfl, ho4, k4⟩
    have HI4 := Lib.hid (HI3.out.keeps k4)
    have HR4 := Lib.hid (HR3.out.keeps k4)
    have K4 : Hid (Keeps w w4) := K3.out.keeps k4
    have hsm := refSame ho4.ints (HT.out.keeps K4.out)
    rw [decide_eq_true rfl] at hsm
    have HSM := Lib.hid hsm
    clear ho4 k4 hsm
    go_wp2_with fail
    refine HSM.out.mono ?_
    rintro e w5 ⟨rfl, k5⟩
    have HI5 := Lib.hid (HI4.out.keeps k5)
    have HR5 := Lib.hid (HR4.out.keeps k5)
    have K5 : Hid (Keeps w w5) := K4.out.keeps k5
    clear k5
    rcases Nat.eq_zero_or_pos Z with hz0 | hpos
    · have hz0 : Z ≤ 0 := by omega
      go_wp2_with (go_at_call 12; refine (livesMatch _).mono ?_; rintro e w7 ⟨rfl, k7⟩; have K7 := Lib.hid k7; clear k7)
      go_ret
      go_light
      exact ⟨rfl, K5.out.keeps K7.out⟩
    · go_wp2_with fail
      refine (matchRun (most := (Z : Int) - 1) HI5.out (by have := HX2.out; omega) HR5.out HL.out (by omega) (by omega)).mono ?_
      rw [HX5.out hpos]
      rintro e w6 ⟨v6, rfl, ho6, k6⟩
      have K6 : Hid (Keeps w w6) := K5.out.keeps k6
      clear ho6 k6
      go_wp2_with (go_at_call 12; refine (livesMatch _).mono ?_; rintro e w7 ⟨rfl, k7⟩; have K7 := Lib.hid k7; clear k7)
      go_ret
      go_light
      exact ⟨rfl, K6.out.keeps K7.out⟩
end Go.Proofs.Ytkckabfbngkkpaa
