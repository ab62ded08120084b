/- The reference's Decode. -/
import Derived.Test.YtjdpijjoblfoaaaTabR
import Derived.Test.YtjdpijjoblfoaaaTakeBk
import Derived.Test.YtjdpijjoblfoaaaFseMayR
import Derived.Test.YtjdpijjoblfoaaaFseDec
namespace Go.Proofs.Ytjdpijjoblfoaaa
open Go.RowKit

theorem shlN_before : ∀ (n : Nat) (x S : Int), ∀ m, m < shlN n x S → x * 2 ^ m < S
  | 0, x, S, m, h => by simp [shlN] at h
  | n + 1, x, S, m, h => by
    simp only [shlN] at h
    split at h
    case isTrue hx =>
      cases m with
      | zero => simpa using hx
      | succ m =>
        have := shlN_before n (x * 2) S m (by omega)
        rw [Int.pow_succ, Int.mul_comm (2 ^ m) 2, ← Int.mul_assoc]
        exact this
    case isFalse hx => omega
theorem Ints.blk' {k : IntKind} {w : World} {v : Value} {zs : List Int} (h : Ints k w v zs) : ∀ x n c, v = .slice (some x) n c → 0 < n → x.block < w.heap.size := fun x n c e h0 => by
  subst e
  exact h.blk h0 x rfl

set_option maxRecDepth 100000 in
set_option maxHeartbeats 8000000 in
theorem refDecode {v u : Value} {zs ls : List Int} {log n : Int} {w : World} (h : Ints .i64 w v zs) (hu : Ints .u8 w u ls) (hul : ls.length ≤ 1000000000) (hw : -9223372036854775808 ≤ log ∧ log ≤ 9223372036854775807) (hn : -9223372036854775808 ≤ n ∧ n ≤ 9223372036854775807) :
    Calls Try.prog 18 #[v, .int .i64 log, u, .int .i64 n] w fun e w' => ∃ x, e = .returned (.tuple #[x, .int .i64 (decS zs log ls n).2]) ∧ Own .i64 3 w.heap.size w' x (decS zs log ls n).1 ∧ Keeps w w' := by
  have HV := Lib.hid h
  have HU := Lib.hid hu
  obtain ⟨va, vc, rfl⟩ := h.form
  obtain ⟨ua, uc, rfl⟩ := hu.form
  obtain ⟨K, hK⟩ : ∃ K, K = zs.length := ⟨_, rfl⟩
  obtain ⟨N, hN⟩ : ∃ N, N = ls.length := ⟨_, rfl⟩
  rw [← hK] at HV ⊢
  rw [← hN] at HU ⊢
  have HNL := Lib.hid hul
  clear h hu hK hN hul
  obtain ⟨r, hr⟩ : ∃ r, r = decS zs log ls n := ⟨_, rfl⟩
  rw [← hr]
  have HR := Lib.hid hr
  have hmy := refMay (log := log) HV.out hw
  clear hr
  by_cases hm : ShMay zs log
  case neg =>
    rw [decide_eq_false hm] at hmy
    have e : Hid (r = ([], 4)) := by show _ = _; rw [HR.out, decS, if_neg hm]
    have HMY := Lib.hid hmy
    clear hmy hm
    go_enter Try.func18, Try.ntmps18
    go_wp2_with fail
    refine HMY.out.mono ?_
    rintro e0 w1 ⟨rfl, hw1⟩
    rw [hw1]
    clear hw1
    go_wp2_with fail
    go_ret2
    go_light
    exact ⟨_, by rw [e.out]; rfl, by rw [e.out]; exact Own.nil _ _ _ _, Fr.refl _ _⟩
  case pos =>
  rw [decide_eq_true hm] at hmy
  have HMY := Lib.hid hmy
  have HM := Lib.hid hm
  clear hmy hm
  by_cases hnb : n < 0 ∨ 65536 < n
  case pos =>
    have e : Hid (r = ([], 1)) := by show _ = _; rw [HR.out, decS, if_pos HM.out, if_pos hnb]
    have hor : n < 0 ∨ (0 ≤ n ∧ 65536 < n) := by omega
    rcases hor with h1 | ⟨h1, h2⟩
    · go_enter Try.func18, Try.ntmps18
      go_wp2_with fail
      refine HMY.out.mono ?_
      rintro e0 w1 ⟨rfl, hw1⟩
      rw [hw1]
      clear hw1
      go_wp2_with fail
      go_ret2
      go_light
      exact ⟨_, by rw [e.out]; rfl, by rw [e.out]; exact Own.nil _ _ _ _, Fr.refl _ _⟩
    · have t1 : decide (n < 0) = false := by simp; omega
      go_enter Try.func18, Try.ntmps18
      go_wp2_with fail
      refine HMY.out.mono ?_
      rintro e0 w1 ⟨rfl, hw1⟩
      rw [hw1]
      clear hw1
      go_wp2_with fail
      go_ret2
      go_light
      exact ⟨_, by rw [e.out]; rfl, by rw [e.out]; exact Own.nil _ _ _ _, Fr.refl _ _⟩
  case neg =>
  obtain ⟨m, rfl⟩ : ∃ m : Nat, n = (m : Int) := ⟨n.toNat, by omega⟩
  have hmm : m ≤ 65536 := by omega
  have t1 : decide ((m : Int) < 0) = false := decide_eq_false (by omega)
  have t2 : decide (65536 < (m : Int)) = false := decide_eq_false (by omega)
  have t3 : decide (65536 < m) = false := decide_eq_false (by omega)
  by_cases hz : ls = [] ∨ ls.getD (ls.length - 1) 0 = 0
  case pos =>
    have e : Hid (r = ([], 3)) := by show _ = _; rw [HR.out, decS, if_pos HM.out, if_neg hnb, if_pos hz]
    have HNB := Lib.hid (refMarkedNo HU.out hz)
    clear hnb hz
    go_enter Try.func18, Try.ntmps18
    go_wp2_with fail
    refine HMY.out.mono ?_
    rintro e0 w1 ⟨rfl, hw1⟩
    rw [hw1]
    clear hw1
    go_wp2_with fail
    refine HNB.out.mono ?_
    rintro e0 w1 ⟨rfl, hw1⟩
    rw [← hw1]
    clear hw1
    go_wp2_with fail
    go_ret2
    go_light
    exact ⟨_, by rw [e.out]; rfl, by rw [e.out]; exact Own.nil _ _ _ _, Fr.refl _ _⟩
  case neg =>
  have HNB := Lib.hid (refMarked HU.out (by have := HNL.out; omega) (fun h => hz (.inl h)) (fun h => hz (.inr h)))
  have HR2 : Hid (r = if (backS (markRow ls) log).2.2 ≠ 0 then ([], 3) else decN (2 ^ log.toNat) zs (backS (markRow ls) log).1.toNat (backS (markRow ls) log).2.1 m) := by
    show _ = _
    rw [HR.out, decS, if_pos HM.out, if_neg hnb, if_neg hz]
    rfl
  have HMB : Hid (Bin (markRow ls)) := (rowOf_bin ls).init _
  have HML : Hid ((markRow ls).length ≤ 8000000000) := by
    show _ ≤ _
    unfold markRow
    rw [List.length_take, rowOf_length]
    have := HNL.out
    omega
  clear hnb hz HR
  obtain ⟨lg, rfl⟩ : ∃ lg : Nat, log = (lg : Int) := ⟨log.toNat, by have := HM.out.1; omega⟩
  have hlg : lg ≤ 9 := by have := HM.out.2.1; omega
  obtain ⟨S, hS⟩ : ∃ S, S = 2 ^ ((lg : Nat) : Int).toNat := ⟨_, rfl⟩
  have hSi : (2 : Int) ^ lg = (S : Int) := by rw [hS, Int.toNat_natCast]; simp
  have hS5 : 32 ≤ S ∧ S ≤ 512 := by rw [hS]; exact pow_logN ⟨HM.out.1, HM.out.2.1⟩
  have HS := Lib.hid hS
  clear hS
  go_enter Try.func18, Try.ntmps18
  go_wp2_with fail
  refine HMY.out.mono ?_
  rintro e0 w1 ⟨rfl, hw1⟩
  rw [hw1]
  clear hw1
  go_wp2_with fail
  refine HNB.out.mono ?_
  rintro e0 w1 ⟨v1, rfl, hi1, _, k1⟩
  have HI1 : Hid (Ints .i64 w1 v1 (markRow ls)) := hi1
  have K1 := Lib.hid k1
  clear hi1 k1
  go_wp2_with fail
  refine (refTable (HV.out.keeps K1.out) HM.out).mono ?_
  rw [← HS.out]
  rintro e0 w2 ⟨b, rfl, hb1, hb2, hpr, k2⟩
  have HPR := Lib.hid hpr
  have K2 := Lib.hid k2
  have HI2 := Lib.hid (HI1.out.keeps k2)
  have HB2 : Hid (b < w2.heap.size) := hb2
  clear hpr k2 hb1 hb2
  go_wp2_with fail
  refine (refBackAny (n := (lg : Int)) HI2.out HMB.out (by have := HML.out; omega)).mono ?_
  rintro e0 w3 ⟨v3, rfl, hi3, hob3, k3⟩
  have HI3 := Lib.hid hi3
  have HPR3 := Lib.hid (HPR.out.fr k3 (fun h => h))
  have hee := backS_err (bs := markRow ls) (n := lg) (by omega)
  have hvv := backS_val (bs := markRow ls) (n := lg) HMB.out
  have HKP3 : Hid (Keeps w w3) := (K1.out.keeps K2.out).keeps k3
  have HBN3 : Hid (Bin (backS (markRow ls) (lg : Int)).2.1) := backS_bin HMB.out
  have HBL3 : Hid ((backS (markRow ls) (lg : Int)).2.1.length ≤ 8000000000) := Nat.le_trans (backS_le _ _) HML.out
  clear hi3 hob3 k3
  rcases hee with h0 | h0
  case inr =>
    have e : Hid (r = ([], 3)) := by show _ = _; rw [HR2.out, if_pos (by rw [h0]; decide)]
    rw [h0]
    clear hvv h0
    go_wp2_with fail
    go_ret2
    go_light
    exact ⟨_, by rw [e.out]; rfl, by rw [e.out]; exact Own.nil _ _ _ _, HKP3.out⟩
  case inl =>
  have hvv := hvv h0
  obtain ⟨p0, hp0⟩ : ∃ p0 : Nat, (backS (markRow ls) (lg : Int)).1 = (p0 : Int) := ⟨(backS (markRow ls) (lg : Int)).1.toNat, by omega⟩
  obtain ⟨bs0, hbs0⟩ : ∃ x, x = (backS (markRow ls) (lg : Int)).2.1 := ⟨_, rfl⟩
  have HE : Hid (r = decN S zs p0 bs0 m) := by
    show _ = _
    rw [HR2.out, if_neg (by rw [h0]; decide), ← HS.out, hp0, Int.toNat_natCast, ← hbs0]
  rw [← hbs0] at HI3 HBN3 HBL3
  rw [h0, hp0]
  have hp0S : p0 < S := by
    have := hvv.2.1
    rw [hp0, hSi] at this
    omega
  have HDB : Hid (∀ k o q r, decK S zs p0 bs0 k = some (o, q, r) → q < S ∧ Bin r ∧ o.length = k) := by
    have hb := HBN3.out
    show ∀ k o q r, _
    rw [HS.out] at hp0S ⊢
    exact decK_bound HM.out hp0S hb
  clear hvv h0 hp0 hbs0 HR2
  go_wp2_with fail
  go_loopw [18, 15, 11, 17] (fun iv av rv ov wr => ∃ (k q : Nat) (o bs : List Int), k ≤ m ∧ iv = .int .i64 k ∧ av = .int .i64 q ∧ Hid (decK S zs p0 bs0 k = some (o, q, bs)) ∧ Own .i64 3 w3.heap.size wr ov o ∧ Ints .i64 wr rv bs ∧ Hid (∀ x n c, rv = .slice (some x) n c → 0 < n → x.block < w3.heap.size) ∧ bs.length ≤ 8000000000 ∧ Keeps w3 wr) (fun iv _ _ _ _ => m - (intOf iv).toNat)
  case atStart => exact ⟨0, p0, [], bs0, by omega, rfl, rfl, rfl, Own.nil _ _ _ _, HI3.out, HI3.out.blk', HBL3.out, Fr.refl _ _⟩
  case round =>
    obtain ⟨k, q, o, bs, hk, rfl, rfl, HD, hown, hri, HRB, hbl, hfr⟩ := hrel
    have HO := Lib.hid hown
    have HRI := Lib.hid hri
    have FR := Lib.hid hfr
    obtain ⟨hqS, hbin, hol⟩ := HDB.out _ _ _ _ HD.out
    obtain ⟨oa, oc, rfl⟩ := hown.form
    obtain ⟨ra, rc, rfl⟩ := hri.form
    obtain ⟨L, hL⟩ : ∃ L, L = bs.length := ⟨_, rfl⟩
    rw [hol]
    rw [hol] at HO
    rw [← hL] at HRI HRB hbl ⊢
    have HL := Lib.hid hL
    have HBI := Lib.hid hbin
    obtain ⟨c0, _, _, c1'⟩ := (HPR3.out.fr hfr (fun h => h)).at (q := q) hqS
    have c1 := c1' (by try rw [← HS.out]
                       exact hqS)
    have hPP : symP (2 ^ ((lg : Nat) : Int).toNat) zs = symP S zs := by rw [← HS.out]
    try rw [hPP] at c0 c1
    have hqi : (q : Int) < (S : Int) := by omega
    have hqi0 : (0 : Int) ≤ (q : Int) := by omega
    clear hown hri hfr hbin hol hL c1' hPP
    by_cases hlt : k < m
    case neg =>
      obtain rfl : k = m := by omega
      have HKP : Hid (Keeps w wr) := HKP3.out.keeps FR.out
      clear c0 c1
      by_cases hq0 : q = 0
      case neg =>
        have e : Hid (r = ([], 3)) := by show _ = _; rw [HE.out, decN, HD.out]; simp only [if_neg (fun h : q = 0 ∧ bs = [] => hq0 h.1)]
        have t5 : ((q : Int) == 0) = false := by simp; omega
        have t6 : ((q : Int) != 0) = true := by simp; omega
        go_wp2_with fail
        go_ret2
        go_light
        exact ⟨_, by rw [e.out]; rfl, by rw [e.out]; exact Own.nil _ _ _ _, HKP.out⟩
      case pos =>
        subst hq0
        by_cases hbn : L = 0
        case neg =>
          have e : Hid (r = ([], 3)) := by
            show _ = _
            rw [HE.out, decN, HD.out]
            have : ¬ bs = [] := fun h => hbn (by rw [HL.out, h]; rfl)
            simp [this]
          have t7 : (0 : Int) < (L : Int) := by omega
          clear hbn
          go_wp2_with fail
          go_ret2
          go_light
          exact ⟨_, by rw [e.out]; rfl, by rw [e.out]; exact Own.nil _ _ _ _, HKP.out⟩
        case pos =>
          have e : Hid (r = (o, 0)) := by
            show _ = _
            rw [HE.out, decN, HD.out]
            have : bs = [] := List.eq_nil_of_length_eq_zero (by rw [← HL.out]; exact hbn)
            simp [this]
          subst hbn
          go_wp2_with fail
          go_ret2
          go_light
          exact ⟨_, by rw [e.out]; rfl, by rw [e.out]; exact HO.out.mono (HKP3.out.size), HKP.out⟩
    case pos =>
      have hst : Hid (decStep S zs q bs = (xP zs (symP S zs) q * 2 ^ (shlN 10 (xP zs (symP S zs) q) (S : Int)) - (S : Int) + (backS bs (shlN 10 (xP zs (symP S zs) q) (S : Int) : Nat)).1, (backS bs (shlN 10 (xP zs (symP S zs) q) (S : Int) : Nat)).2.1, (backS bs (shlN 10 (xP zs (symP S zs) q) (S : Int) : Nat)).2.2)) := rfl
      have hxx : 1 ≤ xP zs (symP S zs) q ∧ xP zs (symP S zs) q < 1024 ∧ shlN 10 (xP zs (symP S zs) q) (S : Int) ≤ 9 ∧ (S : Int) ≤ xP zs (symP S zs) q * 2 ^ shlN 10 (xP zs (symP S zs) q) (S : Int) ∧ xP zs (symP S zs) q * 2 ^ shlN 10 (xP zs (symP S zs) q) (S : Int) < 2 * (S : Int) := by
        have hl := pow_logN ⟨HM.out.1, HM.out.2.1⟩
        rw [HS.out] at hqS ⊢
        obtain ⟨j, hj, e, h1, h2, _⟩ := xP_bound HM.out hqS
        have hs := share_size HM.out
        have hj2 := sum_ge HM.out.2.2.2.2.2.1 (i := j)
        have hz := HM.out.2.2.2.2.2.1 _ (getD_mem (k := j) hj)
        obtain ⟨g1, g2, g3, _⟩ := shlN_spec ⟨HM.out.1, HM.out.2.1⟩ (x := xP zs (symP (2 ^ (lg : Int).toNat) zs) q) (by omega) (by omega)
        have : ((lg : Nat) : Int).toNat = lg := Int.toNat_natCast lg
        have hpp : (0 : Int) < 2 ^ shlN 10 (xP zs (symP (2 ^ (lg : Int).toNat) zs) q) ((2 ^ (lg : Int).toNat : Nat) : Int) := Int.pow_pos (by decide)
        refine ⟨by omega, by omega, by omega, g1, by omega⟩
      have HDN : Hid ((decStep S zs q bs).2.2 = 0 → 0 ≤ (decStep S zs q bs).1 ∧ (decStep S zs q bs).1 < (S : Int)) := by
        show _ → _
        rw [HS.out] at hqS ⊢
        exact decStep_bound HM.out hqS HBI.out
      have hbf := shlN_before 10 (xP zs (symP S zs) q) (S : Int)
      obtain ⟨bq, hbqe⟩ : ∃ x, x = shlN 10 (xP zs (symP S zs) q) (S : Int) := ⟨_, rfl⟩
      rw [← hbqe] at hst hxx hbf
      obtain ⟨x, hx⟩ : ∃ x, x = xP zs (symP S zs) q := ⟨_, rfl⟩
      rw [← hx] at hst hxx hbf c1
      obtain ⟨hx1, hx2, hbq, hg1, hg2⟩ := hxx
      have hbe := backS_err (bs := bs) (n := bq) (by omega)
      have hbv := backS_val (bs := bs) (n := bq) HBI.out
      have hlb := backS_le bs (bq : Int)
      obtain ⟨sy, hsy⟩ : ∃ x, x = (symP S zs).getD q 0 := ⟨_, rfl⟩
      rw [← hsy] at c0
      have HSY := Lib.hid hsy
      have HBF := Lib.hid hbf
      have HC0 := Lib.hid c0
      obtain ⟨y, hy⟩ : ∃ y, y = x * 2 ^ bq := ⟨_, rfl⟩
      rw [← hy] at hg1 hg2 hst
      have HY := Lib.hid hy
      have HBE := Lib.hid hbe
      have HBV := Lib.hid hbv
      have HLB := Lib.hid hlb
      clear hbqe hx hsy hbf c0 hy hbe hbv hlb
      go_wp2_with fail
      go_loopw [20] (fun bv wx => ∃ n : Nat, n ≤ bq ∧ bv = .int .i64 n ∧ wx = wr) (fun bv _ => bq - (intOf bv).toNat)
      case atStart => exact ⟨0, by omega, rfl, rfl⟩
      case round =>
        obtain ⟨n, hn, rfl, hwx⟩ := hrel
        rw [hwx]
        clear hwx
        by_cases hltn : n < bq
        case pos =>
          have hp := HBF.out n hltn
          have hp2 := pow_10' (k := n) (by omega)
          have hp0 : (0 : Int) < 2 ^ n := Int.pow_pos (by decide)
          have hpp : 0 ≤ x * 2 ^ n := Int.mul_nonneg (by omega) (by omega)
          have hwn : ∀ z : Int, z = x * 2 ^ n → wrap64 (x * 2 ^ n) = z := fun z hz => by
            rw [← hz] at hp hpp ⊢
            unfold wrap64
            omega
          obtain ⟨z, hz⟩ : ∃ z, z = x * 2 ^ n := ⟨_, rfl⟩
          have hwz := hwn z hz
          have hwz' : IntKind.i64.wrap (x * 2 ^ n) = z := by rw [← hz] at hp hpp ⊢; exact wraps_i64 _ (by omega) (by omega)
          rw [← hz] at hp hpp
          have tz : decide (z < (S : Int)) = true := decide_eq_true hp
          have tn : n < 64 := by omega
          clear hwn hz hp2 hp0
          go_wp2_with fail
          go_roundw
          all_goals go_light
          case rel => exact ⟨n + 1, by omega, by go_num, trivial⟩
          case measure => simp [intOf]; omega
        case neg =>
          obtain rfl : n = bq := by omega
          have hwz : wrap64 (x * 2 ^ n) = y := by
            rw [← HY.out]
            unfold wrap64
            omega
          have hwz' : IntKind.i64.wrap (x * 2 ^ n) = y := by rw [← HY.out]; exact wraps_i64 _ (by omega) (by omega)
          have tz : decide (y < (S : Int)) = false := decide_eq_false (by omega)
          have tn : n < 64 := by omega
          go_wp2_with fail
          refine (refBackAny (n := (n : Int)) HRI.out HBI.out (by rw [← HL.out]; omega)).mono ?_
          rintro e0 w5 ⟨v5, rfl, hi5, hob5, k5⟩
          have HI5 := Lib.hid hi5
          have F5 := Lib.hid k5
          have HB5 : Hid (∀ x n c, v5 = .slice (some x) n c → 0 < n → x.block < w3.heap.size) := fun x' n' c' e h0 => by
            have hle := HLB.out
            obtain ⟨a5, c5, hv5⟩ := HI5.out.form
            rw [e] at hv5 hob5
            injection hv5 with h1 h2 h3
            have hLp : 0 < L := by rw [HL.out]; omega
            obtain ⟨_, a6, c6, e6, _, _, _, hc6⟩ := HRI.out
            injection e6 with e7 e8 e9
            obtain ⟨b8, off8, e10, _⟩ := hc6 0 (by rw [← HL.out]; exact hLp)
            rw [← e7] at e10
            rw [e10] at hob5
            have := HRB.out ⟨b8, off8, none⟩ L rc (by rw [e10]) hLp
            simp [Value.ownBlock] at hob5
            rw [hob5]
            exact this
          have cc0 := k5.cell (fun h => h) HC0.out
          clear hi5 hob5 k5
          rcases HBE.out with h0 | h0
          case inr =>
            have e : Hid (r = ([], 3)) := by
              show _ = _
              rw [HE.out]
              refine decN_none (k := k + 1) (by omega) ?_
              rw [decK_succ HD.out, hst.out, if_neg (by rw [h0]; decide)]
            rw [h0]
            go_wp2_with fail
            go_ret2
            go_light
            exact ⟨_, by rw [e.out]; rfl, by rw [e.out]; exact Own.nil _ _ _ _, (HKP3.out.keeps FR.out).keeps F5.out⟩
          case inl =>
            have hbv := HBV.out h0
            have hd := HDN.out (by rw [hst.out]; exact h0)
            rw [hst.out] at hd
            have hd : 0 ≤ y - (S : Int) + (backS bs (n : Int)).1 ∧ y - (S : Int) + (backS bs (n : Int)).1 < (S : Int) := hd
            obtain ⟨t, ht⟩ : ∃ t, t = (backS bs (n : Int)).1 := ⟨_, rfl⟩
            rw [← ht] at hd hbv ⊢
            rw [h0]
            obtain ⟨q', hq'⟩ : ∃ q' : Nat, y - (S : Int) + t = (q' : Int) := ⟨(y - (S : Int) + t).toNat, by omega⟩
            have HNX : Hid (decK S zs p0 bs0 (k + 1) = some (o ++ [sy], q', (backS bs (n : Int)).2.1)) := by
              show _ = _
              rw [decK_succ HD.out, hst.out, ← ht, if_pos h0]
              dsimp only
              rw [hq', Int.toNat_natCast, HSY.out]
            have hwt : 0 ≤ t ∧ t < 1024 := ⟨hbv.1, by have := pow_10' (k := n) (by omega); omega⟩
            have hQE : Hid (y - (S : Int) + t = (q' : Int)) := hq'
            have hsw : (Lit.int .i64 sy).wf = true := by
              rw [HSY.out]
              rw [HS.out] at hqS ⊢
              obtain ⟨j, hj, e⟩ := sym_range HM.out hqS
              have := HM.out.2.2.2.1
              rw [e]
              simp [Lit.wf, IntKind.min, IntKind.max, IntKind.signed, IntKind.bits]
              omega
            have HSW := Lib.hid hsw
            have HOLN := Lib.hid (HDB.out _ _ _ _ HD.out).2.2
            have hsz : w3.heap.size ≤ w5.heap.size := by have := FR.out.size; have := F5.out.size; omega
            have HO5 : Hid (Own .i64 3 w3.heap.size w5 (.slice oa k oc) o) := HO.out.keeps F5.out
            have hwa : wrap64 (y - (S : Int)) = y - (S : Int) := by unfold wrap64; omega
            have hwa' : IntKind.i64.wrap (y - (S : Int)) = y - (S : Int) := wraps_i64 _ (by omega) (by omega)
            clear hbv hd ht hq' hsw
            go_wp2_with (at_builtin; go_loud (refine wpList_int rfl (.tmp 80) (.tmp 86) rfl elemI (.slice oa k oc) rfl rfl HO5.out HSW.out (by rw [HOLN.out]; omega) hsz ?_); intro v7 w7 hown7 hfr7 hat7; have H7 := Lib.hid hown7; have F7 := Lib.hid hfr7; clear hown7 hfr7 hat7)
            try rw [hQE.out]
            go_roundw
            all_goals go_light
            case rel =>
              refine ⟨k + 1, q', o ++ [sy], _, by omega, by go_num, by first | rfl | (rw [← hQE.out]; rfl) | (rw [← hQE.out]; go_num), HNX.out, H7.out, HI5.out.fr F7.out (fun x n c e h0 h => ?_), HB5.out, by have := HLB.out; have := HL.out; omega, Keeps.own (FR.out.keeps F5.out) HO5.out (Nat.le_refl _) F7.out⟩
              have h1 := HB5.out x n c e h0
              have h2 := (HO5.out.lt x.block h).1
              omega
            case measure => simp [intOf]; omega
end Go.Proofs.Ytjdpijjoblfoaaa
