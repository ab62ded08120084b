/- Shares written and read: PutShare of the program and of the reference, GetShare. -/
import Derived.Test.YtjdpijjoblfoaaaNumF
import Derived.Test.YtjdpijjoblfoaaaFseMayR
import Derived.Test.YtjdpijjoblfoaaaFseP
import Derived.Test.YtjdpijjoblfoaaaElems
namespace Go.Proofs.Ytjdpijjoblfoaaa
open Go.RowKit

theorem results_four {fn : Func} {t u v x : Tmp} (h : fn.results = #[.tmp t, .tmp u, .tmp v, .tmp x]) (tmps : Array Value) (P : Program) (w : World) :
    (results fn tmps).run P w = .ok (.tuple #[tmps.getD t undef, tmps.getD u undef, tmps.getD v undef, tmps.getD x undef]) w := by
  simp [results, h]
/-- numbers, one behind the other -/
def numsB : List Int → List Int
  | [] => []
  | z :: zs => putS 5 z ++ numsB zs
theorem numsB_append : ∀ a b : List Int, numsB (a ++ b) = numsB a ++ numsB b
  | [], b => rfl
  | x :: a, b => by simp [numsB, numsB_append a b]
theorem numsB_take {zs : List Int} {k : Nat} (h : k < zs.length) : numsB (zs.take (k + 1)) = numsB (zs.take k) ++ putS 5 (zs.getD k 0) := by
  rw [List.take_add_one, List.getElem?_eq_getElem h, numsB_append, List.getD_eq_getElem?_getD, List.getElem?_eq_getElem h]
  simp [numsB]
theorem numsB_drop {zs : List Int} {k : Nat} (h : k < zs.length) : numsB (zs.drop k) = putS 5 (zs.getD k 0) ++ numsB (zs.drop (k + 1)) := by
  rw [List.drop_eq_getElem_cons h, List.getD_eq_getElem?_getD, List.getElem?_eq_getElem h]
  rfl
/-- a share as bytes, k of its numbers -/
def shB (log : Int) (zs : List Int) (k : Nat) : List Int := log :: putS 5 (zs.length : Int) ++ numsB (zs.take k)
theorem putS_len5 {n : Int} (h0 : 0 ≤ n) (h1 : n ≤ 4294967295) : 1 ≤ (putS 5 n).length ∧ (putS 5 n).length ≤ 5 := putS_length 5 n h0 (by omega) (by omega)
theorem may_bound {zs : List Int} {log : Int} (hm : ShMay zs log) : ∀ i, i < zs.length → 0 ≤ zs.getD i 0 ∧ zs.getD i 0 ≤ 512 := fun j hj => by
  have h1 := hm.2.2.2.2.2.1 _ (getD_mem (zs := zs) (k := j) hj)
  have h2 := sum_ge hm.2.2.2.2.2.1 (i := j)
  have h3 := share_size hm
  have h4 := pow_logN ⟨hm.1, hm.2.1⟩
  omega
theorem shB_len {log : Int} {zs : List Int} (h : ∀ i, i < zs.length → 0 ≤ zs.getD i 0 ∧ zs.getD i 0 ≤ 512) (hz : zs.length ≤ 64) : ∀ k, k ≤ zs.length → (shB log zs k).length ≤ 6 + 5 * k
  | 0, _ => by
    have := putS_len5 (n := (zs.length : Int)) (by omega) (by omega)
    simp [shB, numsB]; omega
  | k + 1, hk => by
    have h1 := shB_len (log := log) h hz k (by omega)
    have h2 := h k (by omega)
    have h3 := putS_len5 (n := zs.getD k 0) (by omega) (by omega)
    unfold shB at h1 ⊢
    rw [numsB_take (by omega)]
    simp only [List.length_append] at h1 ⊢
    omega
theorem shB_next {log : Int} {zs : List Int} {k : Nat} (h : k < zs.length) : shB log zs (k + 1) = shB log zs k ++ putS 5 (zs.getD k 0) := by
  unfold shB
  rw [numsB_take h]
  simp
theorem shB_drop {log : Int} {zs : List Int} (ys : List Int) {k : Nat} (h : k < zs.length) : (shB log zs zs.length ++ ys).drop (shB log zs k).length = putS 5 (zs.getD k 0) ++ (numsB (zs.drop (k + 1)) ++ ys) := by
  have e : shB log zs zs.length = shB log zs k ++ (putS 5 (zs.getD k 0) ++ numsB (zs.drop (k + 1))) := by
    unfold shB
    rw [List.append_assoc, ← numsB_drop h, ← numsB_append, List.take_append_drop, List.take_length]
  rw [e, List.append_assoc, List.drop_left, List.append_assoc]
theorem shB_head {log : Int} {zs : List Int} (ys : List Int) : (shB log zs zs.length ++ ys).drop 1 = putS 5 (zs.length : Int) ++ (numsB zs ++ ys) := by
  simp [shB]
theorem num_at {n : Int} (h0 : 0 ≤ n) (h1 : n ≤ 4294967295) (ys : List Int) : numS (putS 5 n ++ ys) 5 0 1 0 = (n, ((putS 5 n).length : Int), 0) := by
  have := numS_putS 5 n [] ys 1 0 h0 (by omega) (by omega) (by omega) (by omega) (.inl rfl)
  simpa using this
theorem bitsNumAt {v : Value} {n : Int} {ys : List Int} {w : World} (h0 : 0 ≤ n) (h1 : n ≤ 4294967295) (h : Ints .u8 w v (putS 5 n ++ ys)) :
    Calls Try.prog 44 #[v] w fun e w' => e = .returned (.tuple #[.int .i64 n, .int .i64 ((putS 5 n).length : Nat), .int .i64 0]) ∧ w' = w := by
  refine (bitsNum h).mono ?_
  rintro e w' ⟨rfl, n', k', r', h2, rfl⟩
  rw [num_at h0 h1] at h2
  simp only [Prod.mk.injEq] at h2
  obtain ⟨rfl, rfl, rfl⟩ := h2
  exact ⟨rfl, rfl⟩

set_option maxRecDepth 100000 in
set_option maxHeartbeats 2000000 in
theorem fsePutShare {v : Value} {zs : List Int} {log : Int} {w : World} (h : Ints .i64 w v zs) (hw : -9223372036854775808 ≤ log ∧ log ≤ 9223372036854775807) :
    Calls Try.prog 19 #[v, .int .i64 log] w fun e w' => ∃ x, e = .returned (.tuple #[x, .int .i64 (if ShMay zs log then 0 else 4)]) ∧ Own .u8 5 w.heap.size w' x (if ShMay zs log then shB log zs zs.length else []) ∧ Keeps w w' := by
  have HV := Lib.hid h
  obtain ⟨_, a, cap, rfl, hcap, hmax, _, hc⟩ := h
  have HC := Lib.hid hc
  obtain ⟨N, hN⟩ : ∃ N, N = zs.length := ⟨_, rfl⟩
  rw [← hN] at hcap HC HV ⊢
  have HN := Lib.hid hN
  unfold maxLen at hmax
  clear hc hN
  by_cases hm : ShMay zs log
  case neg =>
    rw [if_neg hm, if_neg hm]
    have HM := Lib.hid hm
    clear hm
    go_enter Try.func19, Try.ntmps19
    go_wp2_with fail
    refine (fseMay HV.out hw).mono ?_
    rw [decide_eq_false HM.out]
    rintro e1 w1 ⟨rfl, hw1⟩
    rw [hw1]
    clear hw1
    go_wp2_with fail
    go_ret2
    exact ⟨_, rfl, Own.nil _ _ _ _, Fr.refl _ _⟩
  case pos =>
    rw [if_pos hm, if_pos hm]
    have HM := Lib.hid hm
    have hB := may_bound hm
    rw [← HN.out] at hB
    have hN64 : N ≤ 64 := by have := hm.2.2.2.1; have := HN.out; omega
    have HLN := Lib.hid (shB_len (log := log) (may_bound hm) hm.2.2.2.1)
    rw [← HN.out] at HLN
    have h5 : 5 ≤ log ∧ log ≤ 9 := ⟨hm.1, hm.2.1⟩
    have HB := Lib.hid hB
    have hwl : IntKind.u8.wrap log = log := wraps_u8 _ (by omega) (by omega)
    have HW : Hid ((Lit.int .u8 log).wf = true) := WalkArith.wf_u8 (by omega)
    have H0 : Hid (shB log zs 0 = [log] ++ putS 5 (N : Int)) := by show _ = _; simp [shB, numsB, HN.out]
    clear hm hB
    go_enter Try.func19, Try.ntmps19
    go_wp2_with fail
    refine (fseMay HV.out hw).mono ?_
    rw [decide_eq_true HM.out]
    rintro e1 w1 ⟨rfl, hw1⟩
    rw [hw1]
    clear hw1
    go_wp2_with fail
    refine (putNumOk (ints_one HW.out) (by simp) (by omega) (by omega)).mono ?_
    rw [← H0.out]
    rintro e2 w2 ⟨v2, rfl, o2, k2⟩
    have HO2 := Lib.hid (o2.mono (B' := w.heap.size) (by simp))
    have K2 : Hid (Keeps w w2) := Fr.keeps ((Fr.refl _ _).alloc _) k2
    clear o2 k2 hwl
    go_wp2_with fail
    go_loopw [25, 6] (fun iv ov wr => ∃ k : Nat, k ≤ N ∧ iv = .int .i64 k ∧ Own .u8 5 w.heap.size wr ov (shB log zs k) ∧ Keeps w wr) (fun iv _ _ => N - (intOf iv).toNat)
    case atStart => exact ⟨0, by omega, rfl, HO2.out, K2.out⟩
    case round =>
      obtain ⟨k, hk, rfl, hown, hkp⟩ := hrel
      have HO := Lib.hid hown
      have HK := Lib.hid hkp
      clear hown hkp
      by_cases hlt : k < N
      case pos =>
        obtain ⟨b, off, hab, ck⟩ := HC.out k hlt
        subst hab
        have ck := HK.out.cell (fun h => h) ck
        have hzb := HB.out k hlt
        have HNX := Lib.hid (shB_next (log := log) (zs := zs) (k := k) (by rw [← HN.out]; exact hlt))
        obtain ⟨z, hz⟩ : ∃ z, z = zs.getD k 0 := ⟨_, rfl⟩
        rw [← hz] at ck hzb HNX
        have t1 : (0 : Int) ≤ (k : Int) := by omega
        have t2 : (k : Int) < (N : Int) := by omega
        have hln := HLN.out k hk
        clear hz
        go_wp2_with fail
        refine (putNumOk HO.out.ints (by omega) (by omega) (by omega)).mono ?_
        rw [← HNX.out]
        rintro e3 w3 ⟨v3, rfl, o3, k3⟩
        have HO3 := Lib.hid (o3.mono (B' := w.heap.size) HK.out.size)
        have HK3 : Hid (Keeps w w3) := HK.out.keeps k3
        clear o3 k3
        go_wp2_with fail
        go_roundw
        all_goals go_light
        case rel => exact ⟨k + 1, by omega, by go_num, HO3.out, HK3.out⟩
        case measure => simp [intOf]; omega
      case neg =>
        obtain rfl : k = N := by omega
        go_wp2_with fail
        go_ret2
        go_light
        exact ⟨_, rfl, HO.out, HK.out⟩

set_option maxRecDepth 100000 in
set_option maxHeartbeats 2000000 in
theorem refPutShare {v : Value} {zs : List Int} {log : Int} {w : World} (h : Ints .i64 w v zs) (hw : -9223372036854775808 ≤ log ∧ log ≤ 9223372036854775807) :
    Calls Try.prog 20 #[v, .int .i64 log] w fun e w' => ∃ x, e = .returned (.tuple #[x, .int .i64 (if ShMay zs log then 0 else 4)]) ∧ Own .u8 5 w.heap.size w' x (if ShMay zs log then shB log zs zs.length else []) ∧ Keeps w w' := by
  have HV := Lib.hid h
  obtain ⟨_, a, cap, rfl, hcap, hmax, _, hc⟩ := h
  have HC := Lib.hid hc
  obtain ⟨N, hN⟩ : ∃ N, N = zs.length := ⟨_, rfl⟩
  rw [← hN] at hcap HC HV ⊢
  have HN := Lib.hid hN
  unfold maxLen at hmax
  clear hc hN
  by_cases hm : ShMay zs log
  case neg =>
    rw [if_neg hm, if_neg hm]
    have HM := Lib.hid hm
    clear hm
    go_enter Try.func20, Try.ntmps20
    go_wp2_with fail
    refine (refMay HV.out hw).mono ?_
    rw [decide_eq_false HM.out]
    rintro e1 w1 ⟨rfl, hw1⟩
    rw [hw1]
    clear hw1
    go_wp2_with fail
    go_ret2
    exact ⟨_, rfl, Own.nil _ _ _ _, Fr.refl _ _⟩
  case pos =>
    rw [if_pos hm, if_pos hm]
    have HM := Lib.hid hm
    have hB := may_bound hm
    rw [← HN.out] at hB
    have hN64 : N ≤ 64 := by have := hm.2.2.2.1; have := HN.out; omega
    have HLN := Lib.hid (shB_len (log := log) (may_bound hm) hm.2.2.2.1)
    rw [← HN.out] at HLN
    have h5 : 5 ≤ log ∧ log ≤ 9 := ⟨hm.1, hm.2.1⟩
    have HB := Lib.hid hB
    have hwl : IntKind.u8.wrap log = log := wraps_u8 _ (by omega) (by omega)
    have HW : Hid ((Lit.int .u8 log).wf = true) := WalkArith.wf_u8 (by omega)
    have H0 : Hid (shB log zs 0 = [log] ++ putS 5 (N : Int)) := by show _ = _; simp [shB, numsB, HN.out]
    clear hm hB
    go_enter Try.func20, Try.ntmps20
    go_wp2_with fail
    refine (refMay HV.out hw).mono ?_
    rw [decide_eq_true HM.out]
    rintro e1 w1 ⟨rfl, hw1⟩
    rw [hw1]
    clear hw1
    go_wp2_with fail
    refine (refPutNumOk (ints_one HW.out) (by simp) (by omega) (by omega)).mono ?_
    rw [← H0.out]
    rintro e2 w2 ⟨v2, rfl, o2, k2⟩
    have HO2 := Lib.hid (o2.mono (B' := w.heap.size) (by simp))
    have K2 : Hid (Keeps w w2) := Fr.keeps ((Fr.refl _ _).alloc _) k2
    clear o2 k2 hwl
    go_wp2_with fail
    go_loopw [8, 7] (fun iv ov wr => ∃ k : Nat, k ≤ N ∧ iv = .int .i64 k ∧ Own .u8 5 w.heap.size wr ov (shB log zs k) ∧ Keeps w wr) (fun iv _ _ => N - (intOf iv).toNat)
    case atStart => exact ⟨0, by omega, rfl, HO2.out, K2.out⟩
    case round =>
      obtain ⟨k, hk, rfl, hown, hkp⟩ := hrel
      have HO := Lib.hid hown
      have HK := Lib.hid hkp
      clear hown hkp
      by_cases hlt : k < N
      case pos =>
        obtain ⟨b, off, hab, ck⟩ := HC.out k hlt
        subst hab
        have ck := HK.out.cell (fun h => h) ck
        have hzb := HB.out k hlt
        have HNX := Lib.hid (shB_next (log := log) (zs := zs) (k := k) (by rw [← HN.out]; exact hlt))
        obtain ⟨z, hz⟩ : ∃ z, z = zs.getD k 0 := ⟨_, rfl⟩
        rw [← hz] at ck hzb HNX
        have t1 : (0 : Int) ≤ (k : Int) := by omega
        have t2 : (k : Int) < (N : Int) := by omega
        have hln := HLN.out k hk
        clear hz
        go_wp2_with fail
        refine (refPutNumOk HO.out.ints (by omega) (by omega) (by omega)).mono ?_
        rw [← HNX.out]
        rintro e3 w3 ⟨v3, rfl, o3, k3⟩
        have HO3 := Lib.hid (o3.mono (B' := w.heap.size) HK.out.size)
        have HK3 : Hid (Keeps w w3) := HK.out.keeps k3
        clear o3 k3
        go_wp2_with fail
        go_roundw
        all_goals go_light
        case rel => exact ⟨k + 1, by omega, by go_num, HO3.out, HK3.out⟩
        case measure => simp [intOf]; omega
      case neg =>
        obtain rfl : k = N := by omega
        go_wp2_with fail
        go_ret2
        go_light
        exact ⟨_, rfl, HO.out, HK.out⟩

set_option maxRecDepth 100000 in
set_option maxHeartbeats 4000000 in
theorem fseGetShare {v : Value} {zs ys : List Int} {log : Int} {w : World} (hm : ShMay zs log) (h : Ints .u8 w v (shB log zs zs.length ++ ys)) :
    Calls Try.prog 21 #[v] w fun e w' => ∃ x, e = .returned (.tuple #[x, .int .i64 log, .int .i64 ((shB log zs zs.length).length : Nat), .int .i64 0]) ∧ Own .i64 3 w.heap.size w' x zs ∧ Keeps w w' := by
  have HV := Lib.hid h
  have HM := Lib.hid hm
  have h5 : 5 ≤ log ∧ log ≤ 9 := ⟨hm.1, hm.2.1⟩
  have hK64 : zs.length ≤ 64 := hm.2.2.2.1
  have hK0 : 1 ≤ zs.length := hm.2.2.1
  have hB := may_bound hm
  obtain ⟨K, hK⟩ : ∃ K, K = zs.length := ⟨_, rfl⟩
  rw [← hK] at hK64 hK0 HV ⊢
  have hLB := shB_len (log := log) hB (by omega)
  rw [← hK] at hB hLB
  obtain ⟨D, hD⟩ : ∃ D, D = shB log zs K ++ ys := ⟨_, rfl⟩
  rw [← hD] at HV
  have hD0 : 2 ≤ D.length ∧ D.getD 0 0 = log := by
    rw [hD]
    have := putS_len5 (n := (zs.length : Int)) (by omega) (by omega)
    refine ⟨by simp [shB]; omega, by simp [shB]⟩
  have hDD : ∀ k, k < K → D.drop (shB log zs k).length = putS 5 (zs.getD k 0) ++ (numsB (zs.drop (k + 1)) ++ ys) ∧ (shB log zs k).length < D.length := fun k hk => by
    have e := shB_drop (log := log) (zs := zs) ys (k := k) (by rw [← hK]; exact hk)
    rw [← hK, ← hD] at e
    refine ⟨e, ?_⟩
    have h1 := congrArg List.length e
    have h2 := putS_len5 (n := zs.getD k 0) (hB k hk).1 (by have := hB k hk; omega)
    rw [List.length_drop, List.length_append] at h1
    omega
  have hDH : D.drop 1 = putS 5 (K : Int) ++ (numsB zs ++ ys) := by rw [hD, hK]; exact shB_head ys
  have hS0 : (shB log zs 0).length = 1 + (putS 5 (K : Int)).length := by simp [shB, numsB, hK]; omega
  have hSN : ∀ k, k < K → (shB log zs (k + 1)).length = (shB log zs k).length + (putS 5 (zs.getD k 0)).length := fun k hk => by
    rw [shB_next (by rw [← hK]; exact hk), List.length_append]
  obtain ⟨_, a, c, hv, hlc, hmx, _, hc⟩ := HV.out
  obtain ⟨b, off, hab, c0⟩ := hc 0 (by omega)
  subst hab
  subst hv
  rw [hD0.2, Nat.add_zero] at c0
  obtain ⟨N, hN⟩ : ∃ N, N = D.length := ⟨_, rfl⟩
  rw [← hN] at HV hlc hD0 hDD ⊢
  unfold maxLen at hmx
  have hN0 : 2 ≤ N := hD0.1
  have HK := Lib.hid hK
  have HB := Lib.hid hB
  have HLB := Lib.hid hLB
  have HDD := Lib.hid hDD
  have HDH := Lib.hid hDH
  have HS0 := Lib.hid hS0
  have HSN := Lib.hid hSN
  have hd1 : Hid (Ints .u8 w (.slice (some ⟨b, off + 1, none⟩) (N - 1) (c - 1)) (putS 5 (K : Int) ++ (numsB zs ++ ys))) := by
    show Ints _ _ _ _
    have := HV.out.dropAt (j := 1) (by omega) (by omega)
    rwa [HDH.out] at this
  have hl5 := putS_len5 (n := (K : Int)) (by omega) (by omega)
  obtain ⟨L0, hL0⟩ : ∃ L0, L0 = (putS 5 (K : Int)).length := ⟨_, rfl⟩
  rw [← hL0] at hl5 HS0
  have HL0 := Lib.hid hL0
  have hc1 : (1 : Int) < (c : Int) := by omega
  have hc2 : (1 : Int) ≤ (N : Int) := by omega
  have t1 : ((N : Int) == 0) = false := by simp; omega
  have t2 : decide (log < 5) = false := decide_eq_false (by omega)
  have t3 : decide (9 < log) = false := decide_eq_false (by omega)
  have t4 : decide (64 < (K : Int)) = false := decide_eq_false (by omega)
  have t4' : decide (64 < K) = false := decide_eq_false (by omega)
  clear h hm hc hK hD hD0 hB hLB hDD hDH hS0 hSN hN hL0
  go_enter Try.func21, Try.ntmps21
  go_wp2_with fail
  refine (bitsNumAt (by omega) (by omega) hd1.out).mono ?_
  rw [← HL0.out]
  rintro e1 w1 ⟨rfl, hw1⟩
  rw [hw1]
  clear hw1
  go_wp2_with fail
  go_loopw [49, 7, 11] (fun iv av ov wr => ∃ k : Nat, k ≤ K ∧ iv = .int .i64 k ∧ av = .int .i64 ((shB log zs k).length : Nat) ∧ Own .i64 3 w.heap.size wr ov (zs.take k) ∧ Keeps w wr) (fun iv _ _ _ => K - (intOf iv).toNat)
  case atStart => exact ⟨0, by omega, rfl, by rw [HS0.out]; go_num, Own.nil _ _ _ _, Fr.refl _ _⟩
  case round =>
    obtain ⟨k, hk, rfl, rfl, hown, hkp⟩ := hrel
    have HO := Lib.hid hown
    have HKP := Lib.hid hkp
    have hlb := HLB.out k (by have := HK.out; omega)
    have HAT := Lib.hid (HDD.out k)
    have HAN := Lib.hid (HSN.out k)
    obtain ⟨A, hA⟩ : ∃ A, A = (shB log zs k).length := ⟨_, rfl⟩
    rw [← hA] at hlb HAT HAN ⊢
    have HA := Lib.hid hA
    obtain ⟨oa, oc, rfl⟩ := hown.form
    have htl : (zs.take k).length = k := by rw [List.length_take, ← HK.out]; omega
    rw [htl] at HO ⊢
    clear hown hkp hA htl
    by_cases hlt : k < K
    case pos =>
      obtain ⟨hat1, hat2⟩ := HAT.out hlt
      have hzb := HB.out k hlt
      have HNX := Lib.hid (HAN.out hlt)
      have HTK : Hid (zs.take (k + 1) = zs.take k ++ [zs.getD k 0]) := by
        show _ = _
        rw [List.take_add_one, List.getElem?_eq_getElem (by rw [← HK.out]; exact hlt), List.getD_eq_getElem?_getD, List.getElem?_eq_getElem (by rw [← HK.out]; exact hlt)]
        rfl
      have hzl := putS_len5 (n := zs.getD k 0) (by omega) (by omega)
      obtain ⟨z, hz⟩ : ∃ z, z = zs.getD k 0 := ⟨_, rfl⟩
      rw [← hz] at hat1 hzb HNX HTK hzl
      have hd2 : Hid (Ints .u8 wr (.slice (some ⟨b, off + A, none⟩) (N - A) (c - A)) (putS 5 z ++ (numsB (zs.drop (k + 1)) ++ ys))) := by
        show Ints _ _ _ _
        have := (HV.out.keeps HKP.out).dropAt (j := A) (by omega) (by omega)
        rwa [hat1] at this
      have ta1 : (A : Int) < (c : Int) := by omega
      have ta2 : (A : Int) ≤ (N : Int) := by omega
      have ta3 : (0 : Int) ≤ (A : Int) := by omega
      obtain ⟨L, hL⟩ : ∃ L, L = (putS 5 z).length := ⟨_, rfl⟩
      rw [← hL] at hzl HNX
      have HL := Lib.hid hL
      clear hat1 hz hL
      go_wp2_with fail
      refine (bitsNumAt (by omega) (by omega) hd2.out).mono ?_
      rw [← HL.out]
      rintro e3 w3 ⟨rfl, hw3⟩
      rw [hw3]
      clear hw3
      have HWZ : Hid ((Lit.int .i64 z).wf = true) := by
        show _ = _
        simp [Lit.wf, IntKind.min, IntKind.max, IntKind.signed, IntKind.bits]; omega
      have htl : (zs.take k).length = k := by rw [List.length_take, ← HK.out]; omega
      have HTL := Lib.hid htl
      clear htl
      have hsz := HKP.out.size
      go_wp2_with (at_builtin; go_loud (refine wpList_int rfl (.tmp 62) (.tmp 64) rfl elemI (.slice oa k oc) rfl rfl HO.out HWZ.out (by rw [HTL.out]; omega) hsz ?_); intro v7 w7 hown7 hfr7 hat7; have H7 := Lib.hid hown7; have F7 := Lib.hid hfr7; clear hown7 hfr7 hat7)
      go_roundw
      all_goals go_light
      case rel => exact ⟨k + 1, by omega, by go_num, by rw [HNX.out]; go_num, by rw [HTK.out]; exact H7.out, Keeps.own HKP.out HO.out (Nat.le_refl _) F7.out⟩
      case measure => simp [intOf]; omega
    case neg =>
      obtain rfl : k = K := by omega
      have htk : zs.take k = zs := by rw [HK.out, List.take_length]
      rw [htk] at HO
      clear htk
      go_wp2_with fail
      refine (fseMay HO.out.ints (by omega)).mono ?_
      rw [decide_eq_true HM.out]
      rintro e3 w3 ⟨rfl, hw3⟩
      rw [hw3]
      clear hw3
      go_wp2_with fail
      try simp only [Exit.inBlock, Exit.then]
      refine bodyPost_ret (results_four rfl _ _ _) rfl ?_
      go_light
      exact ⟨_, by rw [← HA.out]; rfl, HO.out, HKP.out⟩
end Go.Proofs.Ytjdpijjoblfoaaa
