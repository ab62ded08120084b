/- Max, Clone, and whether some count is none. -/
import Derived.Test.YtbbljpkboojjhaaTreeL
import Derived.Laws.Cover3
import Derived.BigQuiet
namespace Go.Proofs.Ytbbljpkboojjhaa
open Go.RowKit

/-- the first place of the greatest among the first k -/
def greK (l : List Int) : Nat → Nat
  | 0 => 0
  | k + 1 => if l.getD (greK l k) 0 < l.getD k 0 then k else greK l k
def gre (l : List Int) : Nat := greK l l.length
theorem greK_lt (l : List Int) : ∀ k, 0 < k → greK l k < k
  | 0, h => by omega
  | k + 1, _ => by
    simp only [greK]
    split
    · omega
    · rcases Nat.eq_zero_or_pos k with h | h
      · subst h; simp [greK]
      · have := greK_lt l k h; omega
theorem greK_max (l : List Int) : ∀ k i, i < k → l.getD i 0 ≤ l.getD (greK l k) 0
  | 0, i, h => by omega
  | k + 1, i, h => by
    simp only [greK]
    split
    case isTrue hh =>
      by_cases e : i = k
      · subst e; exact Int.le_refl _
      · have := greK_max l k i (by omega); omega
    case isFalse hh =>
      by_cases e : i = k
      · subst e; omega
      · exact greK_max l k i (by omega)
theorem greK_first (l : List Int) : ∀ k i, i < greK l k → l.getD i 0 < l.getD (greK l k) 0
  | 0, i, h => by simp [greK] at h
  | k + 1, i, h => by
    simp only [greK] at h ⊢
    split at h
    case isTrue hh =>
      rw [if_pos hh]
      have := greK_max l k i h
      omega
    case isFalse hh =>
      rw [if_neg hh]
      exact greK_first l k i h

set_option maxRecDepth 100000 in
set_option maxHeartbeats 1000000 in
theorem maxInts {v : Value} {zs : List Int} {w : World} (h : Ints .i64 w v zs) (h0 : 0 < zs.length) :
    Calls Try.prog 20 #[v] w fun e w' => e = .returned (.int .i64 (zs.getD (gre zs) 0)) ∧ w' = w := by
  obtain ⟨hwf, a, cap, rfl, hcap, hmax, _, hc⟩ := h
  have HW := Lib.hid hwf
  have HC := Lib.hid hc
  obtain ⟨N, hN⟩ : ∃ N, N = zs.length := ⟨_, rfl⟩
  obtain ⟨r, hr⟩ : ∃ r, r = zs.getD (gre zs) 0 := ⟨_, rfl⟩
  rw [← hr]
  have HR := Lib.hid hr
  rw [← hN] at hcap HC h0 ⊢
  have HN := Lib.hid hN
  obtain ⟨b, off, ha, c0⟩ := HC.out 0 h0
  subst ha
  rw [Nat.add_zero] at c0
  have hN1 : (1 : Int) ≤ (N : Int) := by omega
  have hN2 : decide ((N : Int) < 1) = false := decide_eq_false (by omega)
  unfold maxLen at hmax
  clear hc hN hwf hr
  go_enter Try.func20, Try.ntmps20
  go_wp2_with fail
  go_loopw [4, 3] (fun iv mv wr => ∃ k : Nat, 1 ≤ k ∧ k ≤ N ∧ iv = .int .i64 k ∧ mv = .int .i64 (zs.getD (greK zs k) 0) ∧ wr = w) (fun iv _ _ => N - (intOf iv).toNat)
  case atStart => exact ⟨1, by omega, by omega, rfl, by simp [greK], rfl⟩
  case round =>
    obtain ⟨k, hk1, hk, rfl, rfl, rfl⟩ := hrel
    have HG : Hid (zs.getD (greK zs (k + 1)) 0 = max (zs.getD (greK zs k) 0) (zs.getD k 0)) := by
      show _ = _
      simp only [greK]
      split <;> omega
    obtain ⟨m, hm⟩ : ∃ m, m = zs.getD (greK zs k) 0 := ⟨_, rfl⟩
    rw [← hm] at HG ⊢
    have HM := Lib.hid hm
    clear hm
    by_cases hlt : k < N
    case pos =>
      obtain ⟨b2, off2, ha2, ck⟩ := HC.out k hlt
      cases ha2
      obtain ⟨z, hz⟩ : ∃ z, z = zs.getD k 0 := ⟨_, rfl⟩
      rw [← hz] at ck HG
      clear hz
      go_wp2_with fail
      go_roundw
      all_goals go_light
      case rel => exact ⟨k + 1, by omega, by omega, by go_num, by rw [HG.out]; congr 1; simp only [Int.max_def]; split <;> split <;> omega, trivial⟩
      case measure => simp [intOf]; omega
    case neg =>
      obtain rfl : k = N := by omega
      go_wp2_with fail
      go_ret
      go_light
      refine ⟨?_, rfl⟩
      have : r = m := by rw [HR.out, HM.out, gre, ← HN.out]
      rw [this]
      rfl

set_option maxRecDepth 100000 in
set_option maxHeartbeats 1000000 in
theorem cloneInts {v : Value} {zs : List Int} {w : World} (h : Ints .i64 w v zs) (hz : zs.length ≤ 17592186043904) (h0 : 0 < zs.length) :
    Calls Try.prog 17 #[v] w fun e w' => ∃ v', e = .returned v' ∧ Own .i64 3 w.heap.size w' v' zs ∧ Keeps w w' := by
  have HI := Lib.hid h
  obtain ⟨_, a, cap, rfl, _, _, _, hc⟩ := h
  obtain ⟨b, off, ha, _⟩ := hc 0 h0
  subst ha
  obtain ⟨N, hN⟩ : ∃ N, N = zs.length := ⟨_, rfl⟩
  rw [← hN] at hz HI ⊢
  have HN := Lib.hid hN
  clear hc hN
  go_enter Try.func17, Try.ntmps17
  have heq : (binOp .eql 22 (.slice (some ⟨b, off, none⟩) N cap) (.slice none 0 0)).run Try.prog w = .ok (.bool false) w := by
    simp only [binOp]
    simp [run_equal_slice_nil w 22 3 _ N cap Try.underlying22]
  have HE0 : Hid (Own .i64 3 w.heap.size (w.alloc (.cells #[] 3)) (.slice (some ⟨w.heap.size, 0, none⟩) 0 0) []) :=
    ⟨fun z hz => by simp at hz, by simp, .inr ⟨w.heap.size, 0, #[], by simp, Nat.le_refl _, heap_alloc_new w _, by simp, by unfold maxLen; omega, by simp, by simp⟩⟩
  go_wp2_with (at_builtin; go_loud (refine wpList_ints rfl (.tmp 5) (.tmp 6) rfl elemI (.slice (some ⟨w.heap.size, 0, none⟩) 0 0) rfl rfl HE0.out (HI.out.keeps ((Fr.refl _ _).alloc _)) (by rw [← HN.out]; simp; omega) (by simp) ?_); intro v1 w1 hown1 hfr1 hat1; have H1 := Lib.hid hown1; have F1 := Lib.hid hfr1; clear hown1 hfr1 hat1)
  go_ret
  go_light
  refine ⟨_, rfl, by have := H1.out; rw [List.nil_append] at this; exact this, Fr.trans (S := fun _ => False) ((Fr.refl _ _).alloc _) F1.out (fun i hi h => by have h : some w.heap.size = some i := h; cases h; omega)⟩

set_option maxRecDepth 100000 in
set_option maxHeartbeats 1000000 in
theorem cloneNone {v : Value} {w : World} (h : Ints .i64 w v []) :
    Calls Try.prog 17 #[v] w fun e w' => ∃ v', e = .returned v' ∧ Ints .i64 w' v' [] ∧ Keeps w w' := by
  have HI := Lib.hid h
  obtain ⟨_, a, cap, rfl, _, _, hn, _⟩ := h
  have HE0 : Hid (Own .i64 3 w.heap.size (w.alloc (.cells #[] 3)) (.slice (some ⟨w.heap.size, 0, none⟩) 0 0) []) :=
    ⟨fun z hz => by simp at hz, by simp, .inr ⟨w.heap.size, 0, #[], by simp, Nat.le_refl _, heap_alloc_new w _, by simp, by unfold maxLen; omega, by simp, by simp⟩⟩
  simp only [List.length_nil] at HI ⊢
  cases a with
  | none =>
    have := hn rfl
    subst this
    go_enter Try.func17, Try.ntmps17
    have heq : (binOp .eql 22 (.slice none 0 0) (.slice none 0 0)).run Try.prog w = .ok (.bool true) w := by
      simp only [binOp]
      simp [run_equal_slice_nil w 22 3 _ 0 0 Try.underlying22]
    go_wp2_with fail
    go_ret
    go_light
    exact ⟨_, rfl, HI.out, Fr.refl _ _⟩
  | some x =>
    go_enter Try.func17, Try.ntmps17
    have heq : (binOp .eql 22 (.slice (some x) 0 cap) (.slice none 0 0)).run Try.prog w = .ok (.bool false) w := by
      simp only [binOp]
      simp [run_equal_slice_nil w 22 3 _ 0 cap Try.underlying22]
    go_wp2_with (at_builtin; go_loud (refine wpList_ints rfl (.tmp 5) (.tmp 6) rfl elemI (.slice (some ⟨w.heap.size, 0, none⟩) 0 0) rfl rfl HE0.out (HI.out.keeps ((Fr.refl _ _).alloc _)) (by simp) (by simp) ?_); intro v1 w1 hown1 hfr1 hat1; have H1 := Lib.hid hown1; have F1 := Lib.hid hfr1; clear hown1 hfr1 hat1)
    go_ret
    go_light
    refine ⟨_, rfl, by have := H1.out.ints; rw [List.nil_append] at this; exact this, Fr.trans (S := fun _ => False) ((Fr.refl _ _).alloc _) F1.out (fun i hi h => by have h : some w.heap.size = some i := h; cases h; omega)⟩

/-- may a count be? -/
def okC (c : Int) : Bool := decide (0 ≤ c ∧ c ≤ 4294967295)

set_option maxHeartbeats 1000000 in
theorem badFn {s : Int} {w : World} : Calls Try.prog 19 #[.int .i64 s] w fun e w' => e = .returned (.bool (!okC s)) ∧ w' = w := by
  obtain ⟨r, hr⟩ : ∃ r, r = !okC s := ⟨_, rfl⟩
  rw [← hr]
  have HR := Lib.hid hr
  clear hr
  by_cases h1 : s < 0
  · have e : Hid (r = true) := by show _ = _; rw [HR.out, okC, decide_eq_false (by omega)]; rfl
    go_enter Try.func19, Try.ntmps19
    go_wp2_with fail
    go_ret
    exact ⟨by rw [e.out]; rfl, rfl⟩
  · have t1 : decide (s < 0) = false := decide_eq_false h1
    by_cases h2 : 4294967295 < s
    · have e : Hid (r = true) := by show _ = _; rw [HR.out, okC, decide_eq_false (by omega)]; rfl
      have t2 : decide (4294967295 < s) = true := decide_eq_true h2
      go_enter Try.func19, Try.ntmps19
      go_wp2_with fail
      go_ret
      exact ⟨by rw [e.out]; rfl, rfl⟩
    · have e : Hid (r = false) := by show _ = _; rw [HR.out, okC, decide_eq_true (by omega)]; rfl
      have t2 : decide (4294967295 < s) = false := decide_eq_false h2
      go_enter Try.func19, Try.ntmps19
      go_wp2_with fail
      go_ret
      exact ⟨by rw [e.out]; rfl, rfl⟩

set_option maxRecDepth 100000 in
set_option maxHeartbeats 2000000 in
theorem badIndex {u : Value} {ls : List Int} {w : World} (hu : Ints .i64 w u ls) :
    Calls Try.prog 31 #[u, .func (.func 19) #[] #[]] w fun e w' => ∃ i : Int, e = .returned (.int .i64 i) ∧ decide (0 ≤ i) = (!ls.all (okC)) ∧ w' = w := by
  have HW := Lib.hid hu.1
  have HS : Hid (∀ s : Int, (-9223372036854775808 ≤ s ∧ s ≤ 9223372036854775807) → Calls Try.prog 19 #[.int .i64 s] w fun e w' => e = .returned (.bool (!okC s)) ∧ w' = w) := fun s hs => badFn
  obtain ⟨_, a, cap, rfl, hcap, hmax, _, hc⟩ := hu
  have HC := Lib.hid hc
  obtain ⟨N, hN⟩ : ∃ N, N = ls.length := ⟨_, rfl⟩
  rw [← hN] at hcap HC ⊢
  have HN := Lib.hid hN
  clear hc hN
  unfold maxLen at hmax
  go_enter Try.func31, Try.ntmps31
  go_wp2_with fail
  go_loopw [8] (fun iv wr => ∃ k : Nat, k ≤ N ∧ iv = .int .i64 k ∧ (∀ i, i < k → okC (ls.getD i 0) = true) ∧ wr = w) (fun iv _ => N - (intOf iv).toNat)
  case atStart => exact ⟨0, by omega, rfl, fun i hi => by omega, rfl⟩
  case round =>
    obtain ⟨k, hk, rfl, hall, rfl⟩ := hrel
    have HA := Lib.hid hall
    clear hall
    by_cases hlt : k < N
    case pos =>
      obtain ⟨b2, off2, ha2, ck⟩ := HC.out k hlt
      subst ha2
      have hsm := HS.out (ls.getD k 0) (ints_int HW.out (by rw [← HN.out]; exact hlt))
      have HSM := Lib.hid hsm
      have hmm := getD_in (l := ls) (i := k) (by rw [← HN.out]; exact hlt)
      have HMM := Lib.hid hmm
      obtain ⟨z, hz⟩ : ∃ z, z = ls.getD k 0 := ⟨_, rfl⟩
      rw [← hz] at ck HSM HMM
      have HZ := Lib.hid hz
      clear hsm hz hmm
      cases hok : okC z with
      | true =>
        rw [hok] at HSM
        have HOK := Lib.hid hok
        clear hok
        go_wp2_with fail
        refine HSM.out.mono ?_
        rintro e w1 ⟨rfl, hw1⟩
        rw [hw1]
        clear hw1
        go_wp2_with fail
        go_roundw
        all_goals go_light
        case rel =>
          refine ⟨k + 1, by omega, by go_num, fun i hi => ?_, trivial⟩
          by_cases he : i = k
          · rw [he, ← HZ.out]; exact HOK.out
          · exact HA.out i (by omega)
        case measure => simp [intOf]; omega
      | false =>
        rw [hok] at HSM
        have HOK := Lib.hid hok
        clear hok
        go_wp2_with fail
        refine HSM.out.mono ?_
        rintro e w1 ⟨rfl, hw1⟩
        rw [hw1]
        clear hw1
        go_wp2_with fail
        go_ret
        go_light
        refine ⟨_, rfl, ?_, rfl⟩
        have : ls.all (okC) = false := by
          rw [Bool.eq_false_iff]
          intro h
          have := List.all_eq_true.1 h z HMM.out
          rw [HOK.out] at this
          cases this
        rw [this]
        simp
    case neg =>
      go_wp2_with fail
      go_ret
      go_light
      refine ⟨_, rfl, ?_, rfl⟩
      have : ls.all (okC) = true := by
        rw [List.all_eq_true]
        intro x hx
        obtain ⟨i, hi, rfl⟩ := in_getD hx
        exact HA.out i (by have := HN.out; omega)
      rw [this]
      simp

set_option maxHeartbeats 1000000 in
theorem badContains {u : Value} {ls : List Int} {w : World} (hu : Ints .i64 w u ls) :
    Calls Try.prog 18 #[u, .func (.func 19) #[] #[]] w fun e w' => e = .returned (.bool (!ls.all (okC))) ∧ w' = w := by
  have H := Lib.hid (badIndex hu)
  obtain ⟨_, a, cap, rfl, _⟩ := hu
  obtain ⟨r, hr⟩ : ∃ r, r = !ls.all (okC) := ⟨_, rfl⟩
  rw [← hr] at H ⊢
  clear hr
  go_enter Try.func18, Try.ntmps18
  go_wp2_with fail
  refine H.out.mono ?_
  rintro e w1 ⟨i, rfl, hi, hw1⟩
  rw [hw1]
  clear hw1
  have HI := Lib.hid hi
  clear hi
  go_wp2_with fail
  go_ret
  go_light
  exact ⟨by rw [← HI.out]; rfl, rfl⟩
end Go.Proofs.Ytbbljpkboojjhaa
