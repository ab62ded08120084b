/- FseCodes: the walk. -/
import Derived.Test.YtjdpijjoblfoaaaFseLives
import Derived.Test.YtjdpijjoblfoaaaEncR
import Derived.Test.YtjdpijjoblfoaaaDecR
import Derived.Test.YtjdpijjoblfoaaaSame
import Derived.Test.YtjdpijjoblfoaaaNumbers
namespace Go.Proofs.Ytjdpijjoblfoaaa
open Go.RowKit

set_option maxRecDepth 100000 in
set_option maxHeartbeats 8000000 in
theorem walkFseCodes {sv u p : Value} {zs ls bs : List Int} {log n : Int} {w : World} (h : Ints .i64 w sv zs) (hu : Ints .i64 w u ls) (hp : Ints .u8 w p bs) (hpl : bs.length ≤ 1048576) (hw : -9223372036854775808 ≤ log ∧ log ≤ 9223372036854775807) (hn : -9223372036854775808 ≤ n ∧ n ≤ 9223372036854775807) :
    Calls Try.prog 5 #[.agg #[sv, .int .i64 log, .int .i64 n], u, p] w fun e w' => e = .returned (.bool true) ∧ Keeps w w' := by
  obtain ⟨a0, b0, hv0⟩ := h.form
  obtain ⟨a1, b1, hv1⟩ := hu.form
  obtain ⟨a2, b2, hv2⟩ := hp.form
  subst hv0
  subst hv1
  subst hv2
  obtain ⟨K, hK⟩ : ∃ K, K = zs.length := ⟨_, rfl⟩
  obtain ⟨L, hL⟩ : ∃ L, L = ls.length := ⟨_, rfl⟩
  obtain ⟨M, hM⟩ : ∃ M, M = bs.length := ⟨_, rfl⟩
  rw [← hK] at h ⊢
  rw [← hL] at hu ⊢
  rw [← hM] at hp ⊢
  have HV := Lib.hid h
  have HU := Lib.hid hu
  have HP := Lib.hid hp
  have HPL := Lib.hid hpl
  obtain ⟨r, hr⟩ : ∃ r, r = encS zs log ls := ⟨_, rfl⟩
  obtain ⟨X, E⟩ := r
  obtain ⟨s, hs⟩ : ∃ s, s = decS zs log bs n := ⟨_, rfl⟩
  obtain ⟨Y, G⟩ := s
  have HR := Lib.hid hr
  have HS := Lib.hid hs
  clear h hu hp hpl hr hs hK hL hM
  go_enter Try.func5, Try.ntmps5
  go_wp2_with fail
  obtain ⟨w0, hw0⟩ : ∃ w0, w0 = w.alloc (.cells #[.slice a0 K b0, .int .i64 log, .int .i64 n] 30) := ⟨_, rfl⟩
  rw [← hw0]
  have K0 : Hid (Keeps w w0) := by show Fr _ _ _; rw [hw0]; exact (Fr.refl _ _).alloc _
  obtain ⟨q, hq⟩ : ∃ q, q = w.heap.size := ⟨_, rfl⟩
  have HC : Hid (w0.heap[q]? = some (.cells #[.slice a0 K b0, .int .i64 log, .int .i64 n] 30 (0, 0))) := by show _ = _; rw [hw0, hq]; exact heap_alloc_new w _
  have HCC : Hid (∀ wx, Keeps w0 wx → wx.cell? ⟨q, 0, none⟩ = some (.slice a0 K b0) ∧ wx.cell? ⟨q, 1, none⟩ = some (.int .i64 log) ∧ wx.cell? ⟨q, 2, none⟩ = some (.int .i64 n)) := fun wx hk => by
    have h := hk.heap (fun h => h) HC.out
    exact ⟨by rw [cell_of_row _ _ _ _ _ _ h]; rfl, by rw [cell_of_row _ _ _ _ _ _ h]; rfl, by rw [cell_of_row _ _ _ _ _ _ h]; rfl⟩
  try rw [← hq]
  clear hw0 hq
  refine (fseEncode (HV.out.keeps K0.out) (HU.out.keeps K0.out) hw).mono ?_
  rw [← HR.out]
  rintro e1 w1 ⟨x1, rfl, ho1, k1⟩
  have HI1 := Lib.hid ho1.ints
  have K1 : Hid (Keeps w0 w1) := k1
  obtain ⟨ax1, cx1, hx1⟩ := ho1.form
  subst hx1
  obtain ⟨c0, c1, _⟩ := HCC.out _ k1
  clear ho1 k1
  go_wp2_with fail
  refine (refEncode ((HV.out.keeps K0.out).keeps K1.out) ((HU.out.keeps K0.out).keeps K1.out) hw).mono ?_
  rw [← HR.out]
  rintro e2 w2 ⟨x2, rfl, ho2, k2⟩
  have HI2 := Lib.hid ho2.ints
  have K2 : Hid (Keeps w0 w2) := K1.out.keeps k2
  have HI12 := Lib.hid (HI1.out.keeps k2)
  obtain ⟨ax2, cx2, hx2⟩ := ho2.form
  subst hx2
  clear ho2 k2 c0 c1
  go_wp2_with fail
  refine (refSame HI12.out HI2.out).mono ?_
  rw [decide_eq_true rfl]
  rintro e3 w3 ⟨rfl, k3⟩
  have K3 : Hid (Keeps w0 w3) := K2.out.keeps k3
  obtain ⟨c0, c1, c2⟩ := HCC.out _ K3.out
  clear k3
  go_wp2_with fail
  refine (fseDecode ((HV.out.keeps K0.out).keeps K3.out) ((HP.out.keeps K0.out).keeps K3.out) (by have := HPL.out; omega) hw hn).mono ?_
  rw [← HS.out]
  rintro e4 w4 ⟨x4, rfl, ho4, k4⟩
  have HI4 := Lib.hid ho4.ints
  have K4 : Hid (Keeps w0 w4) := K3.out.keeps k4
  obtain ⟨ax4, cx4, hx4⟩ := ho4.form
  subst hx4
  clear ho4 k4 c0 c1 c2
  obtain ⟨c0, c1, c2⟩ := HCC.out _ K4.out
  go_wp2_with fail
  refine (refDecode ((HV.out.keeps K0.out).keeps K4.out) ((HP.out.keeps K0.out).keeps K4.out) (by have := HPL.out; omega) hw hn).mono ?_
  rw [← HS.out]
  rintro e5 w5 ⟨x5, rfl, ho5, k5⟩
  have HI5 := Lib.hid ho5.ints
  have K5 : Hid (Keeps w0 w5) := K4.out.keeps k5
  have HI45 := Lib.hid (HI4.out.keeps k5)
  obtain ⟨ax5, cx5, hx5⟩ := ho5.form
  subst hx5
  clear ho5 k5 c0 c1 c2
  go_wp2_with fail
  refine (numbersOf HI45.out HI5.out).mono ?_
  rw [decide_eq_true rfl]
  rintro e6 w6 ⟨rfl, k6⟩
  have K6 : Hid (Keeps w w6) := (K0.out.keeps K5.out).keeps k6
  clear k6
  go_wp2_with (go_at_call 12; refine (livesFse _).mono ?_; rintro e w7 ⟨rfl, k7⟩; have K7 := Lib.hid k7; clear k7)
  go_ret
  go_light
  exact ⟨rfl, K6.out.keeps K7.out⟩
end Go.Proofs.Ytjdpijjoblfoaaa
