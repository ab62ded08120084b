/- HuffRound: the walk. -/
import Derived.Test.YtbbljpkboojjhaaHfLives
import Derived.Test.YtbbljpkboojjhaaHfRoundP
import Derived.Test.YtbbljpkboojjhaaSame
import Derived.BigQuiet
namespace Go.Proofs.Ytbbljpkboojjhaa
open Go.RowKit

set_option maxRecDepth 100000 in
set_option maxHeartbeats 2000000 in
theorem walkHuffRound {v : Value} {ds : List Int} {w : World} (h : Ints .u8 w v ds) (hz : ds.length ≤ 140737488351232) :
    Calls Try.prog 4 #[v] w fun e w' => e = .returned (.bool true) ∧ Keeps w w' := by
  have HV := Lib.hid h
  have hbyt : ∀ d ∈ ds, 0 ≤ d ∧ d < 256 := fun d hd => wf_byte (h.1 d hd)
  have HBY := Lib.hid hbyt
  obtain ⟨_, a, cap, rfl, hcap, hmax, _, hc⟩ := h
  have HC := Lib.hid hc
  obtain ⟨N, hN⟩ : ∃ N, N = ds.length := ⟨_, rfl⟩
  rw [← hN] at hcap HC HV hz ⊢
  have HN := Lib.hid hN
  unfold maxLen at hmax
  clear hc hN hbyt
  have hor : N = 0 ∨ (0 < N ∧ 65536 < N) ∨ (0 < N ∧ N ≤ 65536) := by omega
  rcases hor with h1 | ⟨h1, h2⟩ | ⟨h1, h2⟩
  · subst h1
    go_enter Try.func4, Try.ntmps4
    go_wp2_with (go_at_call 11; refine (livesHuff _).mono ?_; rintro e w7 ⟨rfl, k7⟩; have K7 := Lib.hid k7; clear k7)
    go_ret
    go_light
    exact ⟨rfl, K7.out⟩
  · have t1 : ((N : Int) == 0) = false := by simp; omega
    have t1' : ¬ (N : Int) = 0 := by omega
    have t2 : decide (65536 < (N : Int)) = true := decide_eq_true (by omega)
    go_enter Try.func4, Try.ntmps4
    go_wp2_with (go_at_call 11; refine (livesHuff _).mono ?_; rintro e w7 ⟨rfl, k7⟩; have K7 := Lib.hid k7; clear k7)
    go_ret
    go_light
    exact ⟨rfl, K7.out⟩
  · have t1 : ((N : Int) == 0) = false := by simp; omega
    have t1' : ¬ (N : Int) = 0 := by omega
    have t2 : decide (65536 < (N : Int)) = false := decide_eq_false (by omega)
    have t2' : ¬ (65536 : Int) < (N : Int) := by omega
    have hmk := run_make_row' (P := Try.prog) 22 3 (.int .i64 0) 8 Try.underlying22 infoInt rfl .i64 .i64 256 (by omega) (by omega)
    obtain ⟨Z, hZ⟩ : ∃ Z, Z = madeCells #[.int .i64 0] 256 := ⟨_, rfl⟩
    have HOM : Hid (Own .i64 3 w.heap.size (w.alloc (.cells Z 3)) (.slice (some ⟨w.heap.size, 0, none⟩) 256 256) (List.replicate 256 0)) := by rw [hZ]; exact own_made (by omega) (by decide)
    rw [← hZ, show ((256 : Nat) : Int) = (256 : Int) from rfl] at hmk
    have hm : csMay (cntS ds) := cntS_may HBY.out (by rw [← HN.out]; exact h1) (by rw [← HN.out]; exact h2)
    have hok := cntS_ok HBY.out (by rw [← HN.out]; exact h1) (by rw [← HN.out]; exact h2)
    obtain ⟨X, hX⟩ : ∃ X, X = lengthsS (cntS ds) := ⟨_, rfl⟩
    rw [← hX] at hok
    obtain ⟨r1, r2, r3, r4⟩ := round_all hok (fun d hd => (HBY.out d hd).1) (by rw [← HN.out]; exact h1) (by rw [← HN.out]; exact h2)
    obtain ⟨E, hE⟩ : ∃ E, E = pack (es X ds ds.length) := ⟨_, rfl⟩
    rw [← hE] at r1 r2 r3 r4
    rw [← HN.out] at r2 r3 r4
    have HMY := Lib.hid hm
    have HXE := Lib.hid hX
    have R1 := Lib.hid r1
    have R2 := Lib.hid r2
    have R3 := Lib.hid r3
    have R4 := Lib.hid r4
    clear hZ hm hok hX r1 r2 r3 r4 hE
    go_enter Try.func4, Try.ntmps4
    go_wp2_with fail
    clear hmk
    obtain ⟨g, hg⟩ : ∃ g, g = w.heap.size := ⟨_, rfl⟩
    rw [← hg] at HOM ⊢
    have K0 : Hid (Keeps w (w.alloc (.cells Z 3))) := (Fr.refl _ _).alloc _
    have HGW : Hid (g = w.heap.size) := hg
    clear hg
    go_loopw [4] (fun iv wr => ∃ k : Nat, k ≤ N ∧ iv = .int .i64 k ∧ Own .i64 3 g wr (.slice (some ⟨g, 0, none⟩) 256 256) (bumpS (List.replicate 256 0) (ds.take k)) ∧ Keeps w wr) (fun iv _ => N - (intOf iv).toNat)
    case atStart => exact ⟨0, by omega, rfl, by rw [List.take_zero]; exact HOM.out, K0.out⟩
    case round =>
      obtain ⟨k, hk, rfl, hown, hkp⟩ := hrel
      have HO := Lib.hid hown
      have HK := Lib.hid hkp
      by_cases hlt : k < N
      case pos =>
        obtain ⟨b, off, hab, ck⟩ := HC.out k hlt
        subst hab
        have ck := hkp.cell (fun h => h) ck
        have hdb := HBY.out _ (getD_in (l := ds) (i := k) (by rw [← HN.out]; exact hlt))
        have HST := Lib.hid (bumpS_take (o := List.replicate 256 0) (ps := ds) (k := k) (by rw [← HN.out]; exact hlt))
        obtain ⟨d, hd⟩ : ∃ d : Nat, ds.getD k 0 = (d : Int) := ⟨(ds.getD k 0).toNat, by omega⟩
        rw [hd] at ck hdb HST
        obtain ⟨o, ho⟩ : ∃ o, o = bumpS (List.replicate 256 0) (ds.take k) := ⟨_, rfl⟩
        have hol : o.length = 256 := by rw [ho, bumpS_length, List.length_replicate]
        have hbd := bumpS_bound (ds.take k) (List.replicate 256 0) 0 (fun z hz => by rw [List.eq_of_mem_replicate hz]; omega) (by omega) (o.getD d 0) (by rw [← ho]; exact getD_in (by omega))
        rw [← ho] at HO HST hown
        obtain ⟨co, fo⟩ := hown.at (i := d) (by omega)
        obtain ⟨z, hzz⟩ : ∃ z, z = o.getD d 0 := ⟨_, rfl⟩
        rw [← hzz] at co hbd
        rw [Int.toNat_natCast, ← hzz] at HST
        have hzb : 0 ≤ z ∧ z ≤ 65536 := by
          rw [List.length_take] at hbd
          omega
        have HSET := Lib.hid (hown.set d (y := z + 1) (by simp [Lit.wf, IntKind.min, IntKind.max, IntKind.signed, IntKind.bits]; omega))
        have ti1 : (k : Int) < (N : Int) := by omega
        have ti2 : (d : Int) < 256 := by omega
        have ti0 : (0 : Int) ≤ (k : Int) := by omega
        clear hown hkp hd ho hol hbd hzz
        go_wp2_with fail
        go_roundw
        all_goals go_light
        case rel => exact ⟨k + 1, by omega, by go_num, by rw [HST.out]; exact HSET.out, HK.out.setCell (p := ⟨g, d, none⟩) (fun h => by have h : g < w.heap.size := h; have := HGW.out; omega) _⟩
        case measure => simp [intOf]; omega
      case neg =>
        obtain rfl : k = N := by omega
        have hcs : bumpS (List.replicate 256 0) (ds.take k) = cntS ds := by rw [HN.out, List.take_length]; rfl
        rw [hcs] at HO
        clear hown hkp hcs
        go_wp2_with fail
        refine (lengthsYes HO.out.ints HMY.out).mono ?_
        rw [← HXE.out]
        rintro e1 w1 ⟨x1, rfl, ho1, k1⟩
        have K1 : Hid (Keeps w w1) := HK.out.keeps k1
        have HX1 := Lib.hid ho1.ints
        obtain ⟨a1, c1, hv1⟩ := ho1.form
        subst hv1
        clear ho1 k1
        go_wp2_with fail
        refine (huffEncode HX1.out (HV.out.keeps K1.out) (by rw [← HN.out]; omega)).mono ?_
        rw [R1.out]
        rintro e2 w2 ⟨x2, rfl, ho2, k2⟩
        have K2 : Hid (Keeps w w2) := K1.out.keeps k2
        have HX2 := Lib.hid (HX1.out.keeps k2)
        have HE2 := Lib.hid ho2.ints
        obtain ⟨a2, c2, hv2⟩ := ho2.form
        subst hv2
        clear ho2 k2
        go_wp2_with fail
        refine (huffDecode (n := (k : Int)) HX2.out HE2.out (by have := R4.out; omega) (by omega)).mono ?_
        rw [R2.out]
        rintro e3 w3 ⟨x3, rfl, ho3, k3⟩
        have K3 : Hid (Keeps w w3) := K2.out.keeps k3
        have HX3 := Lib.hid (HX2.out.keeps k3)
        have HE3 := Lib.hid (HE2.out.keeps k3)
        have HD3 := Lib.hid ho3.ints
        obtain ⟨a3, c3, hv3⟩ := ho3.form
        subst hv3
        clear ho3 k3
        go_wp2_with fail
        refine (refSame HD3.out (HV.out.keeps K3.out)).mono ?_
        rw [decide_eq_true rfl]
        rintro e4 w4 ⟨rfl, k4⟩
        have K4 : Hid (Keeps w w4) := K3.out.keeps k4
        have HX4 := Lib.hid (HX3.out.keeps k4)
        have HE4 := Lib.hid (HE3.out.keeps k4)
        clear k4
        go_wp2_with fail
        refine (huffDecode (n := (k : Int) + 9) HX4.out HE4.out (by have := R4.out; omega) (by omega)).mono ?_
        obtain ⟨y, hy⟩ : ∃ y, y = (decS X E ((k : Int) + 9)).2 := ⟨_, rfl⟩
        obtain ⟨yl, hyl⟩ : ∃ y, y = (decS X E ((k : Int) + 9)).1 := ⟨_, rfl⟩
        have hyn := R3.out
        rw [← hy] at hyn
        rw [← hy, ← hyl]
        rintro e5 w5 ⟨x5, rfl, ho5, k5⟩
        have K5 : Hid (Keeps w w5) := K4.out.keeps k5
        obtain ⟨a5, c5, hv5⟩ := ho5.form
        subst hv5
        obtain ⟨LE, hLE⟩ : ∃ L, L = E.length := ⟨_, rfl⟩
        have hr4 := R4.out
        rw [← hLE] at hr4 ⊢
        have ty : (y != 0) = true := by simp; exact hyn
        have tl : decide ((LE : Int) ≤ 2 * (k : Int)) = true := decide_eq_true (by omega)
        have tl2 : (LE : Int) ≤ 2 * (k : Int) := by omega
        clear ho5 k5 hy hyl hLE
        go_wp2_with (go_at_call 11; refine (livesHuff _).mono ?_; rintro e w7 ⟨rfl, k7⟩; have K7 := Lib.hid k7; clear k7)
        go_ret
        go_light
        exact ⟨rfl, K5.out.keeps K7.out⟩
end Go.Proofs.Ytbbljpkboojjhaa
