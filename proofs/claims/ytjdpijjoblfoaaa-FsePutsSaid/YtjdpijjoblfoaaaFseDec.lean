/- fse's Decode. -/
import Derived.Test.YtjdpijjoblfoaaaMade
import Derived.Test.YtjdpijjoblfoaaaFseX
import Derived.Test.YtjdpijjoblfoaaaTakeBk
namespace Go.Proofs.Ytjdpijjoblfoaaa
open Go.RowKit

theorem backS_val {bs : List Int} (hb : Bin bs) {n : Nat} (h : (backS bs n).2.2 = 0) : 0 ≤ (backS bs n).1 ∧ (backS bs n).1 < 2 ^ n ∧ n ≤ bs.length ∧ mayS n bs.length = 0 := by
  by_cases hm : mayS (n : Int) bs.length = 0
  · rw [backS_ok hm]
    have h1 := mayS_ok hm
    have hbd := hb.tail (bs.length - n)
    have hl : (bs.drop (bs.length - n)).length = n := by rw [List.length_drop]; omega
    have := val_lt hbd
    rw [hl] at this
    simp only [Int.toNat_natCast]
    exact ⟨val_nonneg hbd, this, by omega, hm⟩
  · rw [backS_no hm] at h
    exact absurd h hm
theorem backS_err {bs : List Int} {n : Nat} (hn : n ≤ 32) : (backS bs n).2.2 = 0 ∨ (backS bs n).2.2 = 3 := by
  unfold backS
  split
  · exact .inl rfl
  · rename_i h
    right
    show mayS n bs.length = 3
    unfold mayS at h ⊢
    rw [if_neg (by omega)] at h ⊢
    split
    · rfl
    · rename_i h2; rw [if_neg h2] at h; exact absurd rfl h
theorem decStep_bound {zs : List Int} {log : Int} (hm : ShMay zs log) {p : Nat} (hp : p < 2 ^ log.toNat) {bs : List Int} (hb : Bin bs) (h : (decStep (2 ^ log.toNat) zs p bs).2.2 = 0) :
    0 ≤ (decStep (2 ^ log.toNat) zs p bs).1 ∧ (decStep (2 ^ log.toNat) zs p bs).1 < (2 ^ log.toNat : Nat) := by
  obtain ⟨j, hj, e, h1, h2, _⟩ := xP_bound hm hp
  have hs := share_size hm
  have hj2 := sum_ge hm.2.2.2.2.2.1 (i := j)
  have hl := pow_logN ⟨hm.1, hm.2.1⟩
  have hz := hm.2.2.2.2.2.1 _ (getD_mem (k := j) hj)
  obtain ⟨g1, g2, g3, _⟩ := shlN_spec ⟨hm.1, hm.2.1⟩ (x := xP zs (symP (2 ^ log.toNat) zs) p) (by omega) (by omega)
  have g := backS_val hb h
  unfold decStep
  dsimp only
  omega
theorem decK_bound {zs : List Int} {log : Int} (hm : ShMay zs log) {p : Nat} (hp : p < 2 ^ log.toNat) {bs : List Int} (hb : Bin bs) : ∀ k o q r, decK (2 ^ log.toNat) zs p bs k = some (o, q, r) → q < 2 ^ log.toNat ∧ Bin r ∧ o.length = k
  | 0, o, q, r, h => by simp only [decK] at h; cases h; exact ⟨hp, hb, rfl⟩
  | k + 1, o, q, r, h => by
    simp only [decK] at h
    split at h
    · cases h
    · rename_i o' q' r' heq
      obtain ⟨h1, h2, h3⟩ := decK_bound hm hp hb k o' q' r' heq
      split at h
      · rename_i h4
        cases h
        have := decStep_bound hm h1 h2 h4
        exact ⟨by omega, backS_bin h2, by simp [h3]⟩
      · cases h

theorem decK_succ {S : Nat} {zs : List Int} {p : Nat} {bs : List Int} {k : Nat} {o : List Int} {q : Nat} {r : List Int} (h : decK S zs p bs k = some (o, q, r)) : decK S zs p bs (k + 1) = if (decStep S zs q r).2.2 = 0 then some (o ++ [(symP S zs).getD q 0], (decStep S zs q r).1.toNat, (decStep S zs q r).2.1) else none := by
  simp only [decK, h]
theorem decK_none {S : Nat} {zs : List Int} {p : Nat} {bs : List Int} {k : Nat} (h : decK S zs p bs k = none) : ∀ {n}, k ≤ n → decK S zs p bs n = none
  | 0, hn => by obtain rfl : k = 0 := by omega
                exact h
  | n + 1, hn => by
    by_cases e : k = n + 1
    · subst e; exact h
    · simp only [decK, decK_none h (n := n) (by omega)]
theorem decN_none {S : Nat} {zs : List Int} {p : Nat} {bs : List Int} {k n : Nat} (hn : k ≤ n) (h : decK S zs p bs k = none) : decN S zs p bs n = ([], 3) := by
  unfold decN
  rw [decK_none h hn]
theorem pow_10' {k : Nat} (h : k ≤ 10) : (2 : Int) ^ k ≤ 1024 := by
  have : k = 0 ∨ k = 1 ∨ k = 2 ∨ k = 3 ∨ k = 4 ∨ k = 5 ∨ k = 6 ∨ k = 7 ∨ k = 8 ∨ k = 9 ∨ k = 10 := by omega
  rcases this with rfl | rfl | rfl | rfl | rfl | rfl | rfl | rfl | rfl | rfl | rfl <;> decide

set_option maxRecDepth 100000 in
set_option maxHeartbeats 4000000 in
theorem fseDecode {v u : Value} {zs ls : List Int} {log n : Int} {w : World} (h : Ints .i64 w v zs) (hu : Ints .u8 w u ls) (hul : ls.length ≤ 140737488351232) (hw : -9223372036854775808 ≤ log ∧ log ≤ 9223372036854775807) (hn : -9223372036854775808 ≤ n ∧ n ≤ 9223372036854775807) :
    Calls Try.prog 17 #[v, .int .i64 log, u, .int .i64 n] w fun e w' => ∃ x, e = .returned (.tuple #[x, .int .i64 (decS zs log ls n).2]) ∧ Own .i64 3 w.heap.size w' x (decS zs log ls n).1 ∧ Keeps w w' := by
  have HV := Lib.hid h
  have HU := Lib.hid hu
  obtain ⟨va, vc, rfl⟩ := h.form
  obtain ⟨ua, uc, rfl⟩ := hu.form
  obtain ⟨K, hK⟩ : ∃ K, K = zs.length := ⟨_, rfl⟩
  obtain ⟨N, hN⟩ : ∃ N, N = ls.length := ⟨_, rfl⟩
  rw [← hK] at HV ⊢
  rw [← hN] at HU ⊢
  have HNL := Lib.hid hul
  clear h hu hK hN hul
  obtain ⟨r, hr⟩ : ∃ r, r = decS zs log ls n := ⟨_, rfl⟩
  rw [← hr]
  have HR := Lib.hid hr
  have hmy := fseMay (log := log) HV.out hw
  clear hr
  by_cases hm : ShMay zs log
  case neg =>
    rw [decide_eq_false hm] at hmy
    have e : Hid (r = ([], 4)) := by show _ = _; rw [HR.out, decS, if_neg hm]
    have HMY := Lib.hid hmy
    clear hmy hm
    go_enter Try.func17, Try.ntmps17
    go_wp2_with fail
    refine HMY.out.mono ?_
    rintro e0 w1 ⟨rfl, hw1⟩
    rw [hw1]
    clear hw1
    go_wp2_with fail
    go_ret2
    go_light
    exact ⟨_, by rw [e.out]; rfl, by rw [e.out]; exact Own.nil _ _ _ _, Fr.refl _ _⟩
  case pos =>
  rw [decide_eq_true hm] at hmy
  have HMY := Lib.hid hmy
  have HM := Lib.hid hm
  clear hmy hm
  by_cases hnb : n < 0 ∨ 65536 < n
  case pos =>
    have e : Hid (r = ([], 1)) := by show _ = _; rw [HR.out, decS, if_pos HM.out, if_pos hnb]
    have hor : n < 0 ∨ (0 ≤ n ∧ 65536 < n) := by omega
    rcases hor with h1 | ⟨h1, h2⟩
    · go_enter Try.func17, Try.ntmps17
      go_wp2_with fail
      refine HMY.out.mono ?_
      rintro e0 w1 ⟨rfl, hw1⟩
      rw [hw1]
      clear hw1
      go_wp2_with fail
      go_ret2
      go_light
      exact ⟨_, by rw [e.out]; rfl, by rw [e.out]; exact Own.nil _ _ _ _, Fr.refl _ _⟩
    · have t1 : decide (n < 0) = false := by simp; omega
      go_enter Try.func17, Try.ntmps17
      go_wp2_with fail
      refine HMY.out.mono ?_
      rintro e0 w1 ⟨rfl, hw1⟩
      rw [hw1]
      clear hw1
      go_wp2_with fail
      go_ret2
      go_light
      exact ⟨_, by rw [e.out]; rfl, by rw [e.out]; exact Own.nil _ _ _ _, Fr.refl _ _⟩
  case neg =>
  obtain ⟨m, rfl⟩ : ∃ m : Nat, n = (m : Int) := ⟨n.toNat, by omega⟩
  have hmm : m ≤ 65536 := by omega
  have t1 : decide ((m : Int) < 0) = false := decide_eq_false (by omega)
  have t2 : decide (65536 < (m : Int)) = false := decide_eq_false (by omega)
  have t3 : decide (65536 < m) = false := decide_eq_false (by omega)
  by_cases hz : ls = [] ∨ ls.getD (ls.length - 1) 0 = 0
  case pos =>
    have e : Hid (r = ([], 3)) := by show _ = _; rw [HR.out, decS, if_pos HM.out, if_neg hnb, if_pos hz]
    have HNB := Lib.hid (newBackNo HU.out hz)
    clear hnb hz
    go_enter Try.func17, Try.ntmps17
    go_wp2_with fail
    refine HMY.out.mono ?_
    rintro e0 w1 ⟨rfl, hw1⟩
    rw [hw1]
    clear hw1
    go_wp2_with fail
    refine HNB.out.mono ?_
    rintro e0 w1 ⟨rfl, hw1⟩
    rw [← hw1]
    clear hw1
    go_wp2_with fail
    go_ret2
    go_light
    exact ⟨_, by rw [e.out]; rfl, by rw [e.out]; exact Own.nil _ _ _ _, Fr.refl _ _⟩
  case neg =>
  have HNB := Lib.hid (newBack HU.out HNL.out (fun h => hz (.inl h)) (fun h => hz (.inr h)))
  have HR2 : Hid (r = if (backS (markRow ls) log).2.2 ≠ 0 then ([], 3) else decN (2 ^ log.toNat) zs (backS (markRow ls) log).1.toNat (backS (markRow ls) log).2.1 m) := by
    show _ = _
    rw [HR.out, decS, if_pos HM.out, if_neg hnb, if_neg hz]
    rfl
  clear hnb hz HR
  go_enter Try.func17, Try.ntmps17
  go_wp2_with fail
  refine HMY.out.mono ?_
  rintro e0 w1 ⟨rfl, hw1⟩
  rw [hw1]
  clear hw1
  go_wp2_with fail
  refine HNB.out.mono ?_
  rintro e0 w1 ⟨b, g, rfl, hb1, hg1, hbk, k1⟩
  have HBK : Hid (BkRow w1 b g (markRow ls)) := ⟨ls, markOf ls, rfl, hbk⟩
  have K1 := Lib.hid k1
  have HG1 := Lib.hid hg1
  have HBL := HBK.out.lt.1
  clear hbk k1 hg1
  go_wp2_with fail
  refine (madeTab (HV.out.keeps K1.out) HM.out).mono ?_
  rintro e0 w2 ⟨T, rfl, htab, k2⟩
  have HTAB := Lib.hid htab
  have K2 := Lib.hid k2
  have HBK2 := Lib.hid (HBK.out.keeps k2)
  obtain ⟨lg, rfl⟩ : ∃ lg : Nat, log = (lg : Int) := ⟨log.toNat, by have := HM.out.1; omega⟩
  have hlg : lg ≤ 9 := by have := HM.out.2.1; omega
  clear htab k2
  go_wp2_with fail
  refine (bkTake HBK2.out).mono ?_
  rintro e0 w3 ⟨rfl, hbk3, f3⟩
  have HBK3 := Lib.hid hbk3
  have F3 := Lib.hid f3
  have hee := backS_err (bs := markRow ls) (n := lg) (by omega)
  have hvv := backS_val (bs := markRow ls) (n := lg) HBK.out.bin
  clear hbk3 f3
  have HKP3 : Hid (Keeps w w3) := (K1.out.keeps K2.out).trans F3.out (fun i hi h => by have h : i = b := h; omega)
  rcases hee with h0 | h0
  case inr =>
    have e : Hid (r = ([], 3)) := by show _ = _; rw [HR2.out, if_pos (by rw [h0]; decide)]
    rw [h0]
    clear hvv h0
    go_wp2_with fail
    go_ret2
    go_light
    exact ⟨_, by rw [e.out]; rfl, by rw [e.out]; exact Own.nil _ _ _ _, HKP3.out⟩
  case inl =>
  have hvv := hvv h0
  obtain ⟨p0, hp0⟩ : ∃ p0 : Nat, (backS (markRow ls) (lg : Int)).1 = (p0 : Int) := ⟨(backS (markRow ls) (lg : Int)).1.toNat, by omega⟩
  obtain ⟨S, hS⟩ : ∃ S, S = 2 ^ ((lg : Nat) : Int).toNat := ⟨_, rfl⟩
  obtain ⟨bs0, hbs0⟩ : ∃ x, x = (backS (markRow ls) (lg : Int)).2.1 := ⟨_, rfl⟩
  have HE : Hid (r = decN S zs p0 bs0 m) := by
    show _ = _
    rw [HR2.out, if_neg (by rw [h0]; decide), ← hS, hp0, Int.toNat_natCast, ← hbs0]
  rw [← hbs0] at HBK3
  rw [← hS] at HTAB
  rw [h0, hp0]
  have hp0S : p0 < S := by
    have := hvv.2.1
    rw [hp0] at this
    have e : ((2 ^ lg : Nat) : Int) = 2 ^ lg := by simp
    rw [hS, Int.toNat_natCast]
    omega
  have HS := Lib.hid hS
  have HS5 : Hid (32 ≤ S ∧ S ≤ 512) := by show _ ∧ _; rw [HS.out]; exact pow_logN ⟨HM.out.1, HM.out.2.1⟩
  have HDB : Hid (∀ k o q r, decK S zs p0 bs0 k = some (o, q, r) → q < S ∧ Bin r ∧ o.length = k) := by
    have hb := HBK3.out.bin
    show ∀ k o q r, _
    rw [HS.out] at hp0S ⊢
    exact decK_bound HM.out hp0S hb
  have HT3 := Lib.hid (HTAB.out.fr F3.out (fun i h => by have h : i = b := h; have := HBL; omega))
  clear hvv h0 hp0 hS hbs0 HR2
  go_wp2_with fail
  go_loopw [51, 13, 14] (fun iv av ov wr => ∃ (k q : Nat) (o bs : List Int), k ≤ m ∧ iv = .int .i64 k ∧ av = .int .i64 q ∧ Hid (decK S zs p0 bs0 k = some (o, q, bs)) ∧ Own .i64 3 w3.heap.size wr ov o ∧ BkRow wr b g bs ∧ Fr (fun i => i = b) w3 wr) (fun iv _ _ _ => m - (intOf iv).toNat)
  case atStart => exact ⟨0, p0, [], bs0, by omega, rfl, rfl, rfl, Own.nil _ _ _ _, HBK3.out, Fr.refl _ _⟩
  case round =>
    obtain ⟨k, q, o, bs, hk, rfl, rfl, HD, hown, hbk, hfr⟩ := hrel
    have HO := Lib.hid hown
    have HB := Lib.hid hbk
    have FR := Lib.hid hfr
    obtain ⟨hqS, hbin, hol⟩ := HDB.out _ _ _ _ HD.out
    obtain ⟨oa, oc, rfl⟩ := hown.form
    rw [hol]
    rw [hol] at HO
    have ht := HT3.out.fr hfr (fun i h => by have h : i = b := h; omega)
    have HTW := Lib.hid ht
    obtain ⟨c0, c1, c2⟩ := ht.pl q hqS
    clear hown hbk hfr hbin hol ht
    by_cases hlt : k < m
    case neg =>
      obtain rfl : k = m := by omega
      have HKP : Hid (Keeps w wr) := HKP3.out.trans FR.out (fun i hi h => by have h : i = b := h; omega)
      by_cases hq0 : q = 0
      case neg =>
        have e : Hid (r = ([], 3)) := by show _ = _; rw [HE.out, decN, HD.out]; simp only [if_neg (fun h : q = 0 ∧ bs = [] => hq0 h.1)]
        have t5 : ((q : Int) == 0) = false := by simp; omega
        have t6 : ((q : Int) != 0) = true := by simp; omega
        go_wp2_with fail
        go_ret2
        go_light
        exact ⟨_, by rw [e.out]; rfl, by rw [e.out]; exact Own.nil _ _ _ _, HKP.out⟩
      case pos =>
        subst hq0
        have hlf := bkLeft HB.out
        by_cases hbn : bs = []
        case neg =>
          have e : Hid (r = ([], 3)) := by show _ = _; rw [HE.out, decN, HD.out]; simp [hbn]
          have hbl : 0 < bs.length := List.length_pos_iff.2 hbn
          obtain ⟨L, hL⟩ : ∃ L, L = bs.length := ⟨_, rfl⟩
          rw [← hL] at hlf hbl
          have HLF := Lib.hid hlf
          have t7 : (0 : Int) < (L : Int) := by omega
          clear hlf hL hbn
          go_wp2_with fail
          refine HLF.out.mono ?_
          rintro e0 w5 ⟨rfl, hw5⟩
          rw [← hw5]
          clear hw5
          go_wp2_with fail
          go_ret2
          go_light
          exact ⟨_, by rw [e.out]; rfl, by rw [e.out]; exact Own.nil _ _ _ _, HKP.out⟩
        case pos =>
          subst hbn
          have e : Hid (r = (o, 0)) := by show _ = _; rw [HE.out, decN, HD.out]; simp
          simp only [List.length_nil] at hlf
          have HLF := Lib.hid hlf
          clear hlf
          go_wp2_with fail
          refine HLF.out.mono ?_
          rintro e0 w5 ⟨rfl, hw5⟩
          rw [← hw5]
          clear hw5
          go_wp2_with fail
          go_ret2
          go_light
          exact ⟨_, by rw [e.out]; rfl, by rw [e.out]; exact HO.out.mono (HKP3.out.size), HKP.out⟩
    case pos =>
      have hq512 : (q : Int) < 512 := by have := HS5.out; omega
      have hst : Hid (decStep S zs q bs = (xP zs (symP S zs) q * 2 ^ (shlN 10 (xP zs (symP S zs) q) (S : Int)) - (S : Int) + (backS bs (shlN 10 (xP zs (symP S zs) q) (S : Int) : Nat)).1, (backS bs (shlN 10 (xP zs (symP S zs) q) (S : Int) : Nat)).2.1, (backS bs (shlN 10 (xP zs (symP S zs) q) (S : Int) : Nat)).2.2)) := rfl
      have hbq : shlN 10 (xP zs (symP S zs) q) (S : Int) ≤ 9 := by
        rw [HS.out] at hqS ⊢
        obtain ⟨j, hj, e, h1, h2, _⟩ := xP_bound HM.out hqS
        have hs := share_size HM.out
        have hj2 := sum_ge HM.out.2.2.2.2.2.1 (i := j)
        have hl := pow_logN ⟨HM.out.1, HM.out.2.1⟩
        have hz := HM.out.2.2.2.2.2.1 _ (getD_mem (k := j) hj)
        obtain ⟨_, _, g3, _⟩ := shlN_spec ⟨HM.out.1, HM.out.2.1⟩ (x := xP zs (symP (2 ^ (lg : Int).toNat) zs) q) (by omega) (by omega)
        have : ((lg : Nat) : Int).toNat = lg := Int.toNat_natCast lg
        omega
      have HDN : Hid ((decStep S zs q bs).2.2 = 0 → 0 ≤ (decStep S zs q bs).1 ∧ (decStep S zs q bs).1 < (S : Int)) := by
        show _ → _
        rw [HS.out] at hqS ⊢
        exact decStep_bound HM.out hqS HB.out.bin
      obtain ⟨bq, hbqe⟩ : ∃ x, x = shlN 10 (xP zs (symP S zs) q) (S : Int) := ⟨_, rfl⟩
      rw [← hbqe] at hst hbq c1 c2
      obtain ⟨ba, hba⟩ : ∃ x, x = xP zs (symP S zs) q * 2 ^ bq - (S : Int) := ⟨_, rfl⟩
      rw [← hba] at hst c2
      have hbe := backS_err (bs := bs) (n := bq) (by omega)
      have hbv := backS_val (bs := bs) (n := bq) HB.out.bin
      obtain ⟨sy, hsy⟩ : ∃ x, x = (symP S zs).getD q 0 := ⟨_, rfl⟩
      rw [← hsy] at c0
      have HSY := Lib.hid hsy
      clear hbqe hba hsy
      go_wp2_with fail
      refine (bkTake (HB.out.keeps ((Fr.refl _ _).alloc _))).mono ?_
      rintro e0 w5 ⟨rfl, hbk5, f5⟩
      have hx5 := f5.heap (fun h => by have h : wr.heap.size = b := h; have := HB.out.lt.1; omega) (heap_alloc_new wr (.cells #[.int .i64 sy, .int .i64 (bq : Int), .int .i64 ba] 51))
      have x0 := cell_of_row w5 _ 0 _ _ (0, 0) hx5
      have x2 := cell_of_row w5 _ 2 _ _ (0, 0) hx5
      simp at x0 x2
      have f5' : Fr (fun i => i = b) wr w5 := Fr.trans (S := fun i => i = b) ((Fr.refl _ _).alloc _) f5 (fun _ _ h => h)
      have HB5 := Lib.hid hbk5
      have F5 := Lib.hid f5'
      clear hbk5 f5 f5' hx5
      rcases hbe with h0 | h0
      case inr =>
        have e : Hid (r = ([], 3)) := by
          show _ = _
          rw [HE.out]
          refine decN_none (k := k + 1) (by omega) ?_
          rw [decK_succ HD.out, hst.out, if_neg (by rw [h0]; decide)]
        rw [h0]
        clear hbv
        go_wp2_with fail
        go_ret2
        go_light
        exact ⟨_, by rw [e.out]; rfl, by rw [e.out]; exact Own.nil _ _ _ _, (HKP3.out.trans FR.out (fun i hi h => by have h : i = b := h; omega)).trans F5.out (fun i hi h => by have h : i = b := h; omega)⟩
      case inl =>
        have hbv := hbv h0
        have hd := HDN.out (by rw [hst.out]; exact h0)
        rw [hst.out] at hd
        have hd : 0 ≤ ba + (backS bs (bq : Int)).1 ∧ ba + (backS bs (bq : Int)).1 < (S : Int) := hd
        obtain ⟨t, ht⟩ : ∃ t, t = (backS bs (bq : Int)).1 := ⟨_, rfl⟩
        rw [← ht] at hd hbv ⊢
        rw [h0]
        obtain ⟨q', hq'⟩ : ∃ q' : Nat, ba + t = (q' : Int) := ⟨(ba + t).toNat, by omega⟩
        have HNX : Hid (decK S zs p0 bs0 (k + 1) = some (o ++ [sy], q', (backS bs (bq : Int)).2.1)) := by
          show _ = _
          rw [decK_succ HD.out, hst.out, ← ht, if_pos h0]
          dsimp only
          rw [hq', Int.toNat_natCast, HSY.out]
        have hq5 : (q' : Int) < 512 := by have := HS5.out; omega
        have hwt : 0 ≤ t ∧ t < 1024 := ⟨hbv.1, by have := pow_10' (k := bq) (by omega); omega⟩
        have hwb : -1024 ≤ ba ∧ ba < 1024 := by omega
        have hwa : IntKind.i64.wrap (ba + t) = (q' : Int) := by rw [wraps_i64 _ (by omega) (by omega)]; exact hq'
        have hsw : (Lit.int .i64 sy).wf = true := by
          rw [HSY.out]
          rw [HS.out] at hqS ⊢
          obtain ⟨j, hj, e⟩ := sym_range HM.out hqS
          have := HM.out.2.2.2.1
          rw [e]
          simp [Lit.wf, IntKind.min, IntKind.max, IntKind.signed, IntKind.bits]
          omega
        have HSW := Lib.hid hsw
        have HOLN := Lib.hid (HDB.out _ _ _ _ HD.out).2.2
        have hsz : w3.heap.size ≤ w5.heap.size := by have := FR.out.size; have := F5.out.size; omega
        have HO5 : Hid (Own .i64 3 w3.heap.size w5 (.slice oa k oc) o) := HO.out.fr F5.out (fun i hi h => by have h : i = b := h; have := (HO.out.lt i hi).1; have := HBK3.out.lt.1; omega)
        have HBLT := Lib.hid HB5.out.lt
        have HNW : Hid ((Value.slice oa k oc).ownBlock ≠ some wr.heap.size) := fun h => by have := (HO.out.lt _ h).2; omega
        clear hbv hd ht hq' hsw
        go_wp2_with (at_builtin; go_loud (refine wpList_int rfl (.tmp 69) (.tmp 72) rfl elemI (.slice oa k oc) rfl rfl HO5.out HSW.out (by rw [HOLN.out]; omega) hsz ?_); intro v7 w7 hown7 hfr7 hat7; have H7 := Lib.hid hown7; have F7 := Lib.hid hfr7; have y2 := hfr7.cell (p := ⟨wr.heap.size, 2, none⟩) (fun h => HNW.out h) x2; clear hown7 hfr7 hat7)
        go_roundw
        all_goals go_light
        case rel =>
          refine ⟨k + 1, q', o ++ [sy], _, by omega, by go_num, rfl, HNX.out, H7.out, HB5.out.fr F7.out (fun h => ?_) (fun i hi h => ?_), (FR.out.trans F5.out (fun _ _ h => h)).trans F7.out (fun i hi h => ?_)⟩
          · have := (HO5.out.lt b h).1; have := HBK3.out.lt.1; omega
          · have := (HO5.out.lt i h).1; have := HBK3.out.lt.2 i hi; omega
          · have := (HO5.out.lt i h).1; omega
        case measure => simp [intOf]; omega
end Go.Proofs.Ytjdpijjoblfoaaa
