/- FsePuts: the walk. -/
import Derived.Test.YtjdpijjoblfoaaaFseLives
import Derived.Test.YtjdpijjoblfoaaaPuts
import Derived.Test.YtjdpijjoblfoaaaSame
import Derived.Test.YtjdpijjoblfoaaaNumbers
namespace Go.Proofs.Ytjdpijjoblfoaaa
open Go.RowKit

set_option maxRecDepth 100000 in
set_option maxHeartbeats 4000000 in
theorem walkFsePuts {v u : Value} {zs ys : List Int} {log : Int} {w : World} (h : Ints .i64 w v zs) (hu : Ints .u8 w u ys) (hul : ys.length ≤ 140737488351232) (hw : -9223372036854775808 ≤ log ∧ log ≤ 9223372036854775807) :
    Calls Try.prog 8 #[v, .int .i64 log, u] w fun e w' => e = .returned (.bool true) ∧ Keeps w w' := by
  obtain ⟨a0, b0, hv0⟩ := h.form
  obtain ⟨a1, b1, hv1⟩ := hu.form
  subst hv0
  subst hv1
  obtain ⟨K, hK⟩ : ∃ K, K = zs.length := ⟨_, rfl⟩
  obtain ⟨L, hL⟩ : ∃ L, L = ys.length := ⟨_, rfl⟩
  rw [← hK] at h ⊢
  rw [← hL] at hu hul ⊢
  have HV := Lib.hid h
  have HU := Lib.hid hu
  have HL := Lib.hid hL
  have HK := Lib.hid hK
  clear h hu hK hL
  by_cases hm : ShMay zs log
  case neg =>
    have HM := Lib.hid hm
    clear hm
    go_enter Try.func8, Try.ntmps8
    go_wp2_with fail
    refine (fsePutShare HV.out hw).mono ?_
    rw [if_neg HM.out, if_neg HM.out]
    rintro e1 w1 ⟨x1, rfl, ho1, k1⟩
    have HI1 := Lib.hid ho1.ints
    have K1 := Lib.hid k1
    obtain ⟨ax1, cx1, hx1⟩ := ho1.form
    subst hx1
    clear ho1 k1
    go_wp2_with fail
    refine (refPutShare (HV.out.keeps K1.out) hw).mono ?_
    rw [if_neg HM.out, if_neg HM.out]
    rintro e2 w2 ⟨x2, rfl, ho2, k2⟩
    have HI2 := Lib.hid ho2.ints
    have K2 : Hid (Keeps w w2) := K1.out.keeps k2
    have HI12 := Lib.hid (HI1.out.keeps k2)
    obtain ⟨ax2, cx2, hx2⟩ := ho2.form
    subst hx2
    clear ho2 k2
    go_wp2_with fail
    refine (refSame HI12.out HI2.out).mono ?_
    rw [decide_eq_true rfl]
    rintro e3 w3 ⟨rfl, k3⟩
    have K3 : Hid (Keeps w w3) := K2.out.keeps k3
    clear k3
    go_wp2_with (go_at_call 12; refine (livesFse _).mono ?_; rintro e w7 ⟨rfl, k7⟩; have K7 := Lib.hid k7; clear k7)
    go_ret
    go_light
    exact ⟨rfl, K3.out.keeps K7.out⟩
  case pos =>
    have HM := Lib.hid hm
    have hlen := shB_len (log := log) (may_bound hm) hm.2.2.2.1 zs.length (Nat.le_refl _)
    have hK64 := hm.2.2.2.1
    obtain ⟨X, hX⟩ : ∃ X, X = shB log zs zs.length := ⟨_, rfl⟩
    obtain ⟨N, hN⟩ : ∃ N, N = X.length := ⟨_, rfl⟩
    have hNb : N ≤ 400 := by rw [hN, hX]; omega
    have HX := Lib.hid hX
    have HN := Lib.hid hN
    clear hm hlen hX hN hK64
    go_enter Try.func8, Try.ntmps8
    go_wp2_with fail
    refine (fsePutShare HV.out hw).mono ?_
    rw [if_pos HM.out, if_pos HM.out, ← HX.out]
    rintro e1 w1 ⟨x1, rfl, ho1, k1⟩
    have HO1 := Lib.hid ho1
    have K1 := Lib.hid k1
    obtain ⟨ax1, cx1, hx1⟩ := ho1.form
    subst hx1
    rw [← HN.out] at HO1 ⊢
    clear ho1 k1
    go_wp2_with fail
    refine (refPutShare (HV.out.keeps K1.out) hw).mono ?_
    rw [if_pos HM.out, if_pos HM.out, ← HX.out]
    rintro e2 w2 ⟨x2, rfl, ho2, k2⟩
    have HI2 := Lib.hid ho2.ints
    have K2 : Hid (Keeps w w2) := K1.out.keeps k2
    have HO2 := Lib.hid (HO1.out.keeps k2)
    obtain ⟨ax2, cx2, hx2⟩ := ho2.form
    subst hx2
    clear ho2 k2
    go_wp2_with fail
    refine (refSame HO2.out.ints HI2.out).mono ?_
    rw [decide_eq_true rfl]
    rintro e3 w3 ⟨rfl, k3⟩
    have K3 : Hid (Keeps w w3) := K2.out.keeps k3
    have HO3 := Lib.hid (HO2.out.keeps k3)
    have HU3 := Lib.hid (HU.out.keeps K3.out)
    clear k3
    have hsz := K3.out.size
    go_wp2_with (at_builtin; go_loud (refine wpList_ints rfl (.tmp 45) (.tmp 46) rfl elemB (.slice ax1 N cx1) rfl rfl HO3.out HU3.out (by rw [← HN.out, ← HL.out]; omega) hsz ?_); intro v4 w4 hown4 hfr4 hat4; have H4 := Lib.hid hown4; have F4 := Lib.hid hfr4; clear hown4 hfr4 hat4)
    have HI4 : Hid (Ints .u8 w4 v4 (shB log zs zs.length ++ ys)) := by show Ints _ _ _ _; rw [← HX.out]; exact H4.out.ints
    have K4 : Hid (Keeps w w4) := Keeps.own K3.out HO3.out (Nat.le_refl _) F4.out
    refine (fseGetShare HM.out HI4.out).mono ?_
    rw [← HX.out, ← HN.out]
    rintro e5 w5 ⟨x5, rfl, ho5, k5⟩
    have HI5 := Lib.hid ho5.ints
    have K5 : Hid (Keeps w w5) := K4.out.keeps k5
    obtain ⟨ax5, cx5, hx5⟩ := ho5.form
    subst hx5
    clear ho5 k5
    go_wp2_with fail
    refine (numbersOf HI5.out (HV.out.keeps K5.out)).mono ?_
    rw [decide_eq_true rfl]
    rintro e6 w6 ⟨rfl, k6⟩
    have K6 : Hid (Keeps w w6) := K5.out.keeps k6
    clear k6
    go_wp2_with (go_at_call 12; refine (livesFse _).mono ?_; rintro e w7 ⟨rfl, k7⟩; have K7 := Lib.hid k7; clear k7)
    go_ret
    go_light
    exact ⟨rfl, K6.out.keeps K7.out⟩
end Go.Proofs.Ytjdpijjoblfoaaa
