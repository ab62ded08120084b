/- FseRound: the walk. -/
import Derived.Test.YtjdpijjoblfoaaaFseLives
import Derived.Test.YtjdpijjoblfoaaaCounts
import Derived.Test.YtjdpijjoblfoaaaNumbers
import Derived.BigQuiet
namespace Go.Proofs.Ytjdpijjoblfoaaa
open Go.RowKit

set_option maxRecDepth 100000 in
set_option maxHeartbeats 8000000 in
theorem walkFseRound {v : Value} {ls : List Int} {log : Int} {w : World} (h : Ints .i64 w v ls) (hw : -9223372036854775808 ≤ log ∧ log ≤ 9223372036854775807) :
    Calls Try.prog 6 #[v, .int .i64 log] w fun e w' => e = .returned (.bool true) ∧ Keeps w w' := by
  have HV := Lib.hid h
  obtain ⟨_, a, cap, rfl, hcap, hmax, _, hc⟩ := h
  have HC := Lib.hid hc
  obtain ⟨N, hN⟩ : ∃ N, N = ls.length := ⟨_, rfl⟩
  rw [← hN] at hcap HC HV ⊢
  have HN := Lib.hid hN
  unfold maxLen at hmax
  clear hc hN
  by_cases hbig : 32768 < N
  · go_enter Try.func6, Try.ntmps6
    go_wp2_with (go_at_call 12; refine (livesFse _).mono ?_; rintro e w7 ⟨rfl, k7⟩; have K7 := Lib.hid k7; clear k7)
    go_ret
    go_light
    exact ⟨rfl, K7.out⟩
  have t0 : decide (32768 < (N : Int)) = false := decide_eq_false (by omega)
  have t0' : decide (32768 < N) = false := decide_eq_false (by omega)
  have hmk0 := run_make_row' (P := Try.prog) 22 3 (.int .i64 0) 8 Try.underlying22 infoInt rfl .i64 .i64 64 (by omega) (by omega)
  have hmk : ∀ w : World, (Instr.makeSlice 22 (.int .i64 64) (.int .i64 64)).run Try.prog w = .ok (.slice (some ⟨w.heap.size, 0, none⟩) 64 64) (w.alloc (.cells (madeCells #[.int .i64 0] 64) 3)) := hmk0
  clear hmk0
  have HOM : Hid (Own .i64 3 w.heap.size (w.alloc (.cells (madeCells #[.int .i64 0] 64) 3)) (.slice (some ⟨w.heap.size, 0, none⟩) 64 64) (cntS ls 0)) := own_made (by decide) (by decide)
  go_enter Try.func6, Try.ntmps6
  go_wp2_with fail
  obtain ⟨g, hg⟩ : ∃ g, g = w.heap.size := ⟨_, rfl⟩
  rw [← hg] at HOM ⊢
  have HG := Lib.hid hg
  clear hg hmk
  go_loopw [6] (fun i wr => ∃ k : Nat, k ≤ N ∧ i = .int .i64 k ∧ Hid (∀ i, i < k → 0 ≤ ls.getD i 0 ∧ ls.getD i 0 ≤ 63) ∧ Own .i64 3 g wr (.slice (some ⟨g, 0, none⟩) 64 64) (cntS ls k) ∧ Keeps w wr) (fun i _ => N - (intOf i).toNat)
  case atStart => exact ⟨0, by omega, rfl, fun i hi => by omega, HOM.out, (Fr.refl _ _).alloc _⟩
  case round =>
    obtain ⟨k, hk, rfl, HA, hown, hkeep⟩ := hrel
    have KK := Lib.hid hkeep
    have HO := Lib.hid hown
    clear hown hkeep
    by_cases hlt : k < N
    case pos =>
      obtain ⟨b, off, hab, ck⟩ := HC.out k hlt
      subst hab
      have ck := KK.out.cell (fun h => h) ck
      obtain ⟨z, hz⟩ : ∃ z, z = ls.getD k 0 := ⟨_, rfl⟩
      rw [← hz] at ck
      have HZ := Lib.hid hz
      clear hz
      have hor : z < 0 ∨ (0 ≤ z ∧ 63 < z) ∨ (0 ≤ z ∧ z ≤ 63) := by omega
      rcases hor with h1 | ⟨h1, h2⟩ | ⟨h1, h2⟩
      · go_wp2_with (go_at_call 12; refine (livesFse _).mono ?_; rintro e w7 ⟨rfl, k7⟩; have K7 := Lib.hid k7; clear k7)
        go_ret
        go_light
        exact ⟨rfl, KK.out.keeps K7.out⟩
      · have d1 : decide (z < 0) = false := decide_eq_false (by omega)
        go_wp2_with (go_at_call 12; refine (livesFse _).mono ?_; rintro e w7 ⟨rfl, k7⟩; have K7 := Lib.hid k7; clear k7)
        go_ret
        go_light
        exact ⟨rfl, KK.out.keeps K7.out⟩
      · obtain ⟨zn, rfl⟩ := Int.eq_ofNat_of_zero_le h1
        have d1 : decide ((zn : Int) < 0) = false := decide_eq_false (by omega)
        have d2 : decide (63 < (zn : Int)) = false := decide_eq_false (by omega)
        have d3 : decide (63 < zn) = false := decide_eq_false (by omega)
        obtain ⟨cy, fy⟩ := HO.out.at (i := zn) (by rw [cntS_length]; omega)
        have hyb := cntS_bound ls k zn
        obtain ⟨y, hy⟩ : ∃ y, y = (cntS ls k).getD zn 0 := ⟨_, rfl⟩
        rw [← hy] at cy hyb
        have HY := Lib.hid hy
        have hwr : IntKind.i64.wrap (y + 1) = y + 1 := wraps_i64 _ (by omega) (by omega)
        have t3 : (zn : Int) < 64 := by omega
        clear hy
        go_wp2_with fail
        go_roundw
        all_goals go_light
        case rel =>
          have hs := HO.out.set zn (y := y + 1) (by
            have e1 : IntKind.i64.min = -9223372036854775808 := rfl
            have e2 : IntKind.i64.max = 9223372036854775807 := rfl
            simp [Lit.wf, e1, e2]; omega)
          refine ⟨k + 1, by omega, by go_num, ?_, ?_, ?_⟩
          · intro i hi
            by_cases e : i = k
            · rw [e, ← HZ.out]; omega
            · exact HA.out i (by omega)
          · simp only [cntS]
            rw [← HZ.out, Int.toNat_natCast, ← HY.out]
            exact hs
          · exact KK.out.trans ((Fr.refl (fun i => i = g) _).setAt rfl _ _) (fun i hi h => by have h : i = g := h; have := HG.out; omega)
        case measure => simp [intOf]; omega
    case neg =>
      obtain rfl : k = N := by omega
      obtain ⟨cs, hcs⟩ : ∃ cs, cs = cntS ls k := ⟨_, rfl⟩
      rw [← hcs] at HO
      have HI := Lib.hid HO.out.ints
      have HCS := Lib.hid hcs
      clear hcs
      by_cases hno : ShNo cs log
      · have e : Hid (shareS cs log = ([], 1)) := by show _ = _; rw [shareS, if_pos hno]
        clear hno
        go_wp2_with fail
        refine (fseShare HI.out hw).mono ?_
        rw [e.out]
        rintro e1 w1 ⟨x1, rfl, ho1, k1⟩
        obtain ⟨a1, c1, rfl⟩ := ho1.form
        have K1 := Lib.hid k1
        clear ho1 k1
        go_wp2_with (go_at_call 12; refine (livesFse _).mono ?_; rintro e w7 ⟨rfl, k7⟩; have K7 := Lib.hid k7; clear k7)
        go_ret
        go_light
        exact ⟨rfl, (KK.out.keeps K1.out).keeps K7.out⟩
      have e : Hid (shareS cs log = (shareO cs (2 ^ log.toNat), 0)) := by show _ = _; rw [shareS, if_neg hno]
      have hcr := cnt_round (ls := ls) (log := log) (fun i hi => HA.out i (by have := HN.out; omega)) (by rw [← HN.out, ← HCS.out]; exact hno)
      rw [← HN.out, ← HCS.out] at hcr
      obtain ⟨hm, hok⟩ := hcr
      have hlog : 5 ≤ log ∧ log ≤ 9 := ⟨hm.1, hm.2.1⟩
      obtain ⟨S, hS⟩ : ∃ S : Nat, S = 2 ^ log.toNat := ⟨_, rfl⟩
      have hS5 : 32 ≤ S ∧ S ≤ 512 := by rw [hS]; exact pow_logN hlog
      have hSi : (2 : Int) ^ log.toNat = (S : Int) := by rw [hS]; simp
      rw [← hS] at hm hok e
      obtain ⟨X, hX⟩ : ∃ X, X = shareO cs S := ⟨_, rfl⟩
      rw [← hX] at hm hok e
      obtain ⟨M, hM⟩ : ∃ M, M = X.length := ⟨_, rfl⟩
      have hM0 : 0 < M := by have := hm.2.2.1; omega
      have hM64 : M ≤ 64 := by have := hm.2.2.2.1; omega
      obtain ⟨bs, hb1, hb2, hb3, hb4⟩ := fse_round hm (by have := HN.out; omega) hok
      rw [← HN.out] at hb3
      rw [← hS] at hb4
      have HB1 := Lib.hid hb1
      have HB2 := Lib.hid hb2
      have HB3 := Lib.hid hb3
      have HB4 := Lib.hid hb4
      have HM := Lib.hid hm
      have HMX := Lib.hid hM
      have HOK := Lib.hid hok
      clear hb1 hb2 hb3 hb4 hm hM hok hX hS hno
      go_wp2_with fail
      refine (fseShare HI.out hw).mono ?_
      rw [e.out]
      rintro e1 w1 ⟨x1, rfl, ho1, k1⟩
      have HX1 := Lib.hid ho1.ints
      obtain ⟨g1, c1, rfl, hc1, hc2, _, _⟩ := ho1.formNe (by rw [← HMX.out]; exact hM0)
      rw [← HMX.out] at hc1 HX1 ⊢
      have HX : Hid (∀ i, i < M → w1.cell? ⟨g1, i, none⟩ = some (.int .i64 (X.getD i 0))) := fun i hi => (ho1.at (by rw [← HMX.out]; exact hi)).1
      have K1 : Hid (Keeps w w1) := KK.out.keeps k1
      clear ho1 k1
      go_wp2_with fail
      refine (fseEncode HX1.out (HV.out.keeps K1.out) hw).mono ?_
      rw [HB1.out]
      rintro e2 w2 ⟨x2, rfl, ho2, k2⟩
      have HI2 := Lib.hid ho2.ints
      have K2 := Lib.hid k2
      obtain ⟨a2, c2, rfl⟩ := ho2.form
      clear ho2 k2
      go_wp2_with fail
      refine (fseDecode (HX1.out.keeps K2.out) HI2.out (by have := HB2.out; omega) hw (by omega)).mono ?_
      rw [HB3.out]
      rintro e3 w3 ⟨x3, rfl, ho3, k3⟩
      have HI3 := Lib.hid ho3.ints
      have K3 : Hid (Keeps w1 w3) := K2.out.keeps k3
      have K23 := Lib.hid k3
      obtain ⟨a3, c3, rfl⟩ := ho3.form
      clear ho3 k3
      go_wp2_with fail
      refine (numbersOf HI3.out (HV.out.keeps (K1.out.keeps K3.out))).mono ?_
      rw [decide_eq_true rfl]
      rintro e4 w4 ⟨rfl, k4⟩
      have K4 : Hid (Keeps w1 w4) := K3.out.keeps k4
      have K24 : Hid (Keeps w2 w4) := K23.out.keeps k4
      clear k4
      go_wp2_with fail
      by_cases hk0 : k = 0
      · subst hk0
        go_quiet (fail)
        go_wp2_with (go_at_call 12; refine (livesFse _).mono ?_; rintro e w7 ⟨rfl, k7⟩; have K7 := Lib.hid k7; clear k7)
        go_ret
        go_light
        exact ⟨rfl, ((K1.out.keeps K4.out).drewN _).keeps K7.out⟩
      have d0 : decide (0 < (k : Int)) = true := decide_eq_true (by omega)
      have d0' : decide (0 < k) = true := decide_eq_true (by omega)
      have d0'' : 0 < k := by omega
      obtain ⟨b, off, hab, ck⟩ := HC.out (k - 1) (by omega)
      subst hab
      have ck := (K1.out.keeps K4.out).cell (fun h => h) ck
      obtain ⟨z, hz⟩ : ∃ z, z = ls.getD (k - 1) 0 := ⟨_, rfl⟩
      rw [← hz] at ck
      have hzb := HA.out (k - 1) (by omega)
      rw [← hz] at hzb
      have hzo := HOK.out z (by rw [hz]; exact getD_mem (by have := HN.out; omega))
      have HZ := Lib.hid hz
      clear hz
      obtain ⟨hz1, hz2⟩ := hzb
      obtain ⟨zn, rfl⟩ := Int.eq_ofNat_of_zero_le hz1
      have hzM : zn < M := by
        have h : 0 ≤ (zn : Int) ∧ (zn : Int) < X.length ∧ X.getD (zn : Int).toNat 0 ≠ 0 := by simpa [okSym] using hzo
        have := HMX.out
        omega
      have cx := K4.out.cell (fun h => h) (HX.out zn hzM)
      obtain ⟨y, hy⟩ : ∃ y, y = X.getD zn 0 := ⟨_, rfl⟩
      rw [← hy] at cx
      have HY := Lib.hid hy
      have t5 : (0 : Int) ≤ (k : Int) - 1 := by omega
      have t6 : (k : Int) - 1 < (k : Int) := by omega
      have t7 : (zn : Int) < (M : Int) := by omega
      have t8 : (0 : Int) ≤ (zn : Int) := by omega
      clear hy hzo hzM
      by_cases hys : y < (S : Int)
      · have d1 : decide (y < (S : Int)) = true := decide_eq_true hys
        have HD : Hid (decS X log bs ((k : Int) - 1) = ([], 3)) := by
          have := HB4.out (k - 1) (by have := HN.out; omega) (by rw [← HZ.out, Int.toNat_natCast, ← HY.out]; exact hys)
          show _ = _
          rw [show (k : Int) - 1 = ((k - 1 : Nat) : Int) by omega]
          exact this
        go_quiet (fail)
        go_wp2_with fail
        refine (fseDecode ((HX1.out.keeps K4.out).keeps ((Fr.refl _ _).drewN _)) ((HI2.out.keeps K24.out).keeps ((Fr.refl _ _).drewN _)) (by have := HB2.out; omega) hw (by omega)).mono ?_
        rw [HD.out]
        rintro e5 w5 ⟨x5, rfl, ho5, k5⟩
        have K5 : Hid (Keeps w4 w5) := Fr.keeps (Fr.drewN (Fr.refl _ _) _) k5
        clear ho5 k5
        go_wp2_with (go_at_call 12; refine (livesFse _).mono ?_; rintro e w7 ⟨rfl, k7⟩; have K7 := Lib.hid k7; clear k7)
        go_ret
        go_light
        exact ⟨rfl, ((K1.out.keeps K4.out).keeps K5.out).keeps K7.out⟩
      · have d1 : decide (y < (S : Int)) = false := decide_eq_false hys
        go_quiet (fail)
        go_wp2_with (go_at_call 12; refine (livesFse _).mono ?_; rintro e w7 ⟨rfl, k7⟩; have K7 := Lib.hid k7; clear k7)
        go_ret
        go_light
        exact ⟨rfl, ((K1.out.keeps K4.out).drewN _).keeps K7.out⟩
end Go.Proofs.Ytjdpijjoblfoaaa
