/- AllocPlays: the walk. -/
import Derived.Test.YtapagllebpcnhaaAllocQ
import Derived.Test.YtapagllebpcnhaaRfRuns
import Derived.Test.YtapagllebpcnhaaSameR
import Derived.BigQuiet
namespace Go.Proofs.Ytapagllebpcnhaa
open Go.RowKit

set_option maxRecDepth 100000 in
set_option maxHeartbeats 4000000 in
theorem walkAllocPlays {v : Value} {ds : List (List Int)} {l0 e0 : Int} {w : World} (h : Recs 2 w v ds) (hz : ds.length ≤ 8796093021952) :
    Calls Try.prog 5 #[.int .i64 l0, .int .i64 e0, v] w fun e w' => e = .returned (.bool true) ∧ Keeps w w' := by
  have HL := Lib.hid h
  obtain ⟨_, la, lc, rfl, _, _, _⟩ := h
  obtain ⟨n, hn⟩ : ∃ n, n = ds.length := ⟨_, rfl⟩
  rw [← hn] at hz HL ⊢
  clear hn
  have hor : (l0 < 0 ∨ 65536 < e0 ∨ e0 < l0) ∨ ∃ L N : Nat, l0 = (L : Int) ∧ e0 = (L : Int) + (N : Int) ∧ L + N ≤ 65536 := by
    by_cases h : l0 < 0 ∨ 65536 < e0 ∨ e0 < l0
    · exact .inl h
    · exact .inr ⟨l0.toNat, (e0 - l0).toNat, by omega, by omega, by omega⟩
  rcases hor with hbad | ⟨L, N, rfl, rfl, hLN⟩
  · have HBAD := Lib.hid hbad
    clear hbad
    go_enter Try.func5, Try.ntmps5
    go_wp2_with fail
    refine (mapNewNo HBAD.out).mono ?_
    rintro e w1 ⟨rfl, hw1⟩
    rw [hw1]
    clear hw1
    go_wp2_with fail
    refine (refNewNo HBAD.out).mono ?_
    rintro e w1 ⟨rfl, hw1⟩
    rw [hw1]
    clear hw1
    go_wp2_with fail
    refine (livesAlloc _).mono ?_
    rintro e w9 ⟨rfl, k9⟩
    have K9 := Lib.hid k9
    clear k9
    go_wp2_with fail
    go_ret
    go_light
    exact ⟨rfl, K9.out⟩
  · go_enter Try.func5, Try.ntmps5
    go_wp2_with fail
    refine (mapNew (R := fun k => k < w.heap.size) (L := L) (N := N) hLN (fun _ h => h)).mono ?_
    rintro e w1 ⟨b, rfl, ⟨s, h1⟩, k1⟩
    have H1 := Lib.hid h1
    have K1 := Lib.hid k1
    clear h1 k1
    go_wp2_with fail
    refine (refNew (L := L) (N := N) hLN).mono ?_
    rintro e w2 ⟨rb, rl, rfl, ⟨g1, g2, g3, g4⟩, hr2, k2⟩
    obtain ⟨R, hR⟩ : ∃ R : Nat → Prop, R = fun k => k < w.heap.size ∨ (w1.heap.size ≤ k ∧ k < w2.heap.size) := ⟨_, rfl⟩
    have HB2 : Hid (Both R w2 b s rb rl L (List.replicate N 0) 0 N) := by
      rw [hR]
      exact ⟨H1.out.widen k2, hr2, .inr ⟨g1, g2⟩, .inr ⟨g3, g4⟩⟩
    have K2 : Hid (Keeps w w2) := K1.out.keeps k2
    have HS0 : Hid (∀ i, i < w.heap.size → ¬ (¬ R i ∨ i = rb ∨ i = rl)) := fun i hi h => by
      have hs1 := K1.out.size
      rcases h with h | h | h
      · exact h (by rw [hR]; exact .inl hi)
      · omega
      · omega
    clear g1 g2 g3 g4 hr2 k2 hR
    go_wp2_with fail
    go_loopw [11] (fun iv wr => ∃ (k : Nat) (st : List Int) (rs : Nat), k ≤ n ∧ iv = .int .i64 k ∧ st.length = N ∧ Both R wr b s rb rl L st rs (N + k) ∧ Keeps w wr) (fun iv _ => n - (intOf iv).toNat)
    case atStart => exact ⟨0, _, 0, by omega, rfl, by simp, HB2.out, K2.out⟩
    case round =>
      obtain ⟨k, st, rs, hk, rfl, hst, hb, hkp⟩ := hrel
      have HB := Lib.hid hb
      have HK := Lib.hid hkp
      have HST := Lib.hid hst
      clear hb hkp
      by_cases hlt : k < n
      case pos =>
        obtain ⟨lb, lo, hla, hlb, q0, q1, c0, c1, b0, b1⟩ := HL.out.row2 hlt
        subst hla
        have C1W := Lib.hid c1
        have c0 := HK.out.cell (fun h => h) c0
        have c1 := HK.out.cell (fun h => h) c1
        clear hst
        go_wp2_with fail
        refine (doesBoth HB.out (by omega) b0 b1).mono ?_
        rintro e w5 ⟨rfl, hb5, hf5⟩
        obtain ⟨st5, hst5⟩ : ∃ x, x = (doesA L st rs q0 q1).1 := ⟨_, rfl⟩
        obtain ⟨rs5, hrs5⟩ : ∃ x, x = (doesA L st rs q0 q1).2 := ⟨_, rfl⟩
        have HL5 : Hid (st5.length = N) := by show _ = _; rw [hst5, doesA_length]; exact HST.out
        have HB5 : Hid (Both R w5 b s rb rl L st5 rs5 (N + k + 1)) := by
          rw [← hst5, ← hrs5] at hb5
          exact hb5
        have HK5 : Hid (Keeps w w5) := HK.out.trans hf5 (fun i hi h => HS0.out i hi h)
        have c1 := HK5.out.cell (fun h => h) C1W.out
        have q1' : Hid (∀ m, Calls Try.prog 12 #[.pointer (some ⟨b, 0, none⟩)] (w5.drewN m) fun e w' => e = .returned (.int .i64 ((cnt st5 0 : Int) - (rs5 : Int))) ∧ ∃ x, w' = (w5.drewN m).drewN x) := fun m => mapFreeQ (HB5.out.1.keeps ((Fr.refl _ _).drewN m))
        have q2' : Hid (∀ m, Calls Try.prog 21 #[.pointer (some ⟨rb, 0, none⟩)] (w5.drewN m) fun e w' => e = .returned (.int .i64 ((cnt st5 0 : Int) - (rs5 : Int))) ∧ ∃ x, w' = (w5.drewN m).drewN x) := fun m => refFreeQ (HB5.out.2.1.keeps ((Fr.refl _ _).drewN m))
        have q3' : Hid (∀ m, Calls Try.prog 19 #[.pointer (some ⟨b, 0, none⟩)] (w5.drewN m) fun e w' => e = .returned (.int .i64 (cnt st5 2 : Nat)) ∧ w' = w5.drewN m) := fun m => mapDropped (HB5.out.1.keeps ((Fr.refl _ _).drewN m))
        have q4' : Hid (∀ m, Calls Try.prog 22 #[.pointer (some ⟨rb, 0, none⟩), .int .i64 2] (w5.drewN m) fun e w' => e = .returned (.int .i64 (cnt st5 2 : Nat)) ∧ w' = w5.drewN m) := fun m => refCount (HB5.out.2.1.keeps ((Fr.refl _ _).drewN m))
        have q5' : Hid (∀ m, Calls Try.prog 18 #[.pointer (some ⟨b, 0, none⟩), .int .i64 q1] (w5.drewN m) fun e w' => e = .returned (.bool (isB L st5 q1 1 || isB L st5 q1 2)) ∧ ∃ x, w' = (w5.drewN m).drewN x) := fun m => mapTakenQ (HB5.out.1.keeps ((Fr.refl _ _).drewN m)) b1
        have q6' : Hid (∀ m, Calls Try.prog 23 #[.pointer (some ⟨rb, 0, none⟩), .int .i64 q1] (w5.drewN m) fun e w' => e = .returned (.bool (isB L st5 q1 1 || isB L st5 q1 2)) ∧ ∃ x, w' = (w5.drewN m).drewN x) := fun m => refTakenQ (HB5.out.2.1.keeps ((Fr.refl _ _).drewN m)) b1
        obtain ⟨x1, hx1⟩ : ∃ x, x = (cnt st5 0 : Int) - (rs5 : Int) := ⟨_, rfl⟩
        obtain ⟨x2, hx2⟩ : ∃ x, x = cnt st5 2 := ⟨_, rfl⟩
        obtain ⟨x3, hx3⟩ : ∃ x, x = (isB L st5 q1 1 || isB L st5 q1 2) := ⟨_, rfl⟩
        rw [← hx1] at q1' q2'
        rw [← hx2] at q3' q4'
        rw [← hx3] at q5' q6'
        clear hb5 hf5 hst5 hrs5 hx1 hx2 hx3
        have t1 : (0 : Int) ≤ (k : Int) := by omega
        have t2 : (k : Int) < (n : Int) := by omega
        go_wp2_with fail
        go_quiet (first
          | (go_at_call 12; go_loud (exact Calls.quiet_of (q1'.out _)))
          | (go_at_call 21; go_loud (exact Calls.quiet_of (q2'.out _)))
          | (go_at_call 19; go_loud (exact Calls.quiet_of_same (q3'.out _)))
          | (go_at_call 22; go_loud (exact Calls.quiet_of_same (q4'.out _)))
          | (go_at_call 18; go_loud (exact Calls.quiet_of (q5'.out _)))
          | (go_at_call 23; go_loud (exact Calls.quiet_of (q6'.out _))))
        go_wp2_with fail
        go_roundw
        all_goals go_light
        case rel => exact ⟨k + 1, st5, rs5, by omega, by go_num, HL5.out, HB5.out.keeps ((Fr.refl _ _).drewN _), HK5.out.drewN _⟩
        case measure => simp [intOf]; omega
      case neg =>
        have hrp := runsP_length L st st.length
        have hrq : (runsP L st st.length).length ≤ 1048576 := by omega
        have HRQ := Lib.hid hrq
        clear hrp hrq hst
        go_wp2_with fail
        refine (mapRuns HB.out.1).mono ?_
        rintro e w3 ⟨xv, rfl, hx3, k3⟩
        have HX3 := Lib.hid hx3
        have K3 : Hid (Keeps w w3) := HK.out.keeps k3
        have HB3 := Lib.hid (HB.out.keeps k3)
        clear hx3 k3
        go_wp2_with fail
        refine (refRuns HB3.out.2.1).mono ?_
        rintro e w4 ⟨yv, rfl, hx4, k4⟩
        have HU := Lib.hid (HX3.out.keeps k4).recs
        have HV := Lib.hid hx4.recs
        have K4 : Hid (Keeps w w4) := K3.out.keeps k4
        clear hx4 k4
        go_wp2_with fail
        refine (runsTrue HU.out HV.out HRQ.out).mono ?_
        rintro e w5 ⟨rfl, k5⟩
        have K5 : Hid (Keeps w w5) := K4.out.keeps k5
        clear k5
        go_wp2_with fail
        refine (livesAlloc _).mono ?_
        rintro e w9 ⟨rfl, k9⟩
        have K9 := Lib.hid k9
        clear k9
        go_wp2_with fail
        go_ret
        go_light
        exact ⟨rfl, K5.out.keeps K9.out⟩
end Go.Proofs.Ytapagllebpcnhaa
