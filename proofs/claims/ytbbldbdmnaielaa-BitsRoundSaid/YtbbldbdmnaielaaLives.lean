/- The document's examples of layer 1 hold: 'lives' returns true, and changes nothing that was there. -/
import Derived.Test.YtbbldbdmnaielaaNum
import Derived.Test.YtbbldbdmnaielaaWriter
import Derived.Test.YtbbldbdmnaielaaWriterLen
namespace Go.Proofs.Ytbbldbdmnaielaa
open Go.RowKit

theorem num_lit : numS [172, 2, 9] 5 0 1 0 = (300, 2, 0) := by decide
theorem pack_lit : pack (([] ++ bitsOf 3 5) ++ bitsOf 6 33) = [13, 1] := by decide
theorem len_lit : (([] ++ bitsOf 3 5) ++ bitsOf 6 33).length = 9 := by decide

set_option maxHeartbeats 1000000 in
theorem livesBits (w : World) : Calls Try.prog 13 #[] w fun e w' => e = .returned (.bool true) ∧ Keeps w w' := by
  go_enter Try.func13, Try.ntmps13
  go_wp2_with fail
  refine (newWriter _).mono ?_
  rintro e w1 ⟨rfl, hw1, k1⟩
  have hH := Lib.hid hw1; clear hw1
  have K1 := Lib.hid k1; clear k1
  go_wp2_with fail
  refine (writerPutOk hH.out (by simp) (by omega) (by omega) (by omega) (by decide)).mono ?_
  rintro e w2 ⟨g2, rfl, hw2, f2, a2⟩
  have hH2 := Lib.hid hw2; clear hw2
  have F2 := Lib.hid f2; clear f2
  have A2 := Lib.hid a2; clear a2
  go_wp2_with fail
  refine (writerPutOk hH2.out (by simp [bitsOf_length]) (by omega) (by omega) (by omega) (by decide)).mono ?_
  rintro e w3 ⟨g3, rfl, hw3, f3, a3⟩
  have hH3 := Lib.hid hw3; clear hw3
  have F3 := Lib.hid f3; clear f3
  have A3 := Lib.hid a3; clear a3
  go_wp2_with fail
  refine (writerBytes hH3.out (by simp [bitsOf_length])).mono ?_
  rintro e w4 ⟨v4, rfl, hb4, k4⟩
  have hB4 := Lib.hid hb4; clear hb4
  have K4 := Lib.hid k4; clear k4
  go_wp2_with fail
  refine (bitsNum (ints_lit [172, 2, 9] (by decide) (by rfl) (by decide) (by decide))).mono ?_
  rintro e w5 ⟨rfl, n5, k5, r5, h5, rfl⟩
  rw [num_lit] at h5
  obtain ⟨rfl, rfl, rfl⟩ : 300 = n5 ∧ 2 = k5 ∧ 0 = r5 := by simpa using h5
  clear h5
  have hI := hB4.out.ints
  rw [show pack (([] ++ bitsOf (Int.toNat 3) 5) ++ bitsOf (Int.toNat 6) 33) = [13, 1] from by decide] at hI
  obtain ⟨_, a, cap, rfl, _, _, _, hc⟩ := hI
  obtain ⟨xb, xo, rfl, c0⟩ := hc 0 (by decide)
  obtain ⟨yb, yo, hx', c1⟩ := hc 1 (by decide)
  obtain ⟨rfl, rfl⟩ : xb = yb ∧ xo = yo := by simpa using hx'
  clear hc hx'
  rw [Nat.add_zero] at c0
  have c0' := ((Fr.refl (fun _ => False) w4).alloc (.cells #[.int .u8 172, .int .u8 2, .int .u8 9] 5)).cell (p := ⟨xb, xo, none⟩) (fun h => h) c0
  have c1' := ((Fr.refl (fun _ => False) w4).alloc (.cells #[.int .u8 172, .int .u8 2, .int .u8 9] 5)).cell (p := ⟨xb, xo + 1, none⟩) (fun h => h) c1
  clear c0 c1
  simp only [List.getD_cons_zero, List.getD_cons_succ] at c0' c1'
  have hlen : Hid (((([] ++ bitsOf (Int.toNat 3) 5) ++ bitsOf (Int.toNat 6) 33).length : Int) = 9) := by show _ = _; decide
  go_wp2_with (go_at_call 17; refine (writerLen ((hH3.out.keeps K4.out).keeps ((Fr.refl _ _).alloc _)) (by simp [bitsOf_length])).mono ?_; rintro e w6 ⟨rfl, k6⟩; have K6 := Lib.hid k6; clear k6; have c0 := K6.out.cell (fun h => h) c0'; have c1 := K6.out.cell (fun h => h) c1'; rw [hlen.out])
  go_ret
  go_light
  refine ⟨rfl, ?_⟩
  have s1 := K1.out.size
  have s2 := F2.out.size
  have s3 := F3.out.size
  refine Fr.keeps (Fr.keeps (Fr.trans (Fr.trans K1.out F2.out ?_) F3.out ?_) K4.out) (((Fr.refl _ w4).alloc _).keeps K6.out)
  · intro i hi h
    rcases h with h | h
    · omega
    · cases h
  · intro i hi h
    rcases h with h | h
    · omega
    · rcases A2.out with h' | ⟨k, h', hk⟩
      · rw [h'] at h; cases h
      · rw [h'] at h; cases h; omega
end Go.Proofs.Ytbbldbdmnaielaa
