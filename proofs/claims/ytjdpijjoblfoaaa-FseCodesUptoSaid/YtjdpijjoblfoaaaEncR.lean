/- The reference's Encode. -/
import Derived.Test.YtjdpijjoblfoaaaTabR
import Derived.Test.YtjdpijjoblfoaaaRefPut
import Derived.Test.YtjdpijjoblfoaaaFseMayR
import Derived.Test.YtjdpijjoblfoaaaFseRd
namespace Go.Proofs.Ytjdpijjoblfoaaa
open Go.RowKit

theorem bitsOf_mod (n : Nat) (v : Int) : bitsOf n (v % 2 ^ n) = bitsOf n v := by
  have h := bitsOf_val (bitsOf_bin n v)
  rw [bitsOf_length, val_bitsOf] at h
  exact h
/-- the place that a symbol goes to, and no other one has its number -/
theorem enc_place {zs : List Int} {log : Int} (hm : ShMay zs log) {j : Nat} (hj : j < zs.length) (hz : zs.getD j 0 ≠ 0) {x : Int} (h0 : ((2 ^ log.toNat : Nat) : Int) ≤ x) (h1 : x < 2 * ((2 ^ log.toNat : Nat) : Int)) :
    ∃ p n : Nat, n = shrN 10 x (zs.getD j 0) ∧ n ≤ 10 ∧ p < 2 ^ log.toNat ∧ (∀ r, encStep (2 ^ log.toNat) zs (x, r) (j : Int) = (((2 ^ log.toNat : Nat) : Int) + (p : Int), r ++ bitsOf n x)) ∧
      (∀ m, m < n → 2 * zs.getD j 0 ≤ x / 2 ^ m) ∧ x / 2 ^ n < 2 * zs.getD j 0 ∧
      (∀ q, q < 2 ^ log.toNat → ((symP (2 ^ log.toNat) zs).getD q 0 = (j : Int) ∧ xP zs (symP (2 ^ log.toNat) zs) q = x / 2 ^ n ↔ q = p)) := by
  obtain ⟨hl5, hl9, hn1, hn64, _, hnn, hsum⟩ := id hm
  have hsl := share_size hm
  have hpw := pow_logN ⟨hl5, hl9⟩
  obtain ⟨S, hS⟩ : ∃ S : Nat, S = 2 ^ log.toNat := ⟨_, rfl⟩
  rw [← hS] at hsl hpw h0 h1 ⊢
  have hps := posP_share hm hj
  rw [← hS] at hps
  have hf0 := hnn _ (getD_mem hj)
  have hfs := sum_ge hnn (i := j)
  obtain ⟨f, hf⟩ : ∃ f, f = zs.getD j 0 := ⟨_, rfl⟩
  have hpl : (posP (symP S zs) (j : Int) S).length = f.toNat := by rw [hf]; exact hps
  rw [← hf] at hz hf0 hfs ⊢
  obtain ⟨g1, g2, g3, g4⟩ := shrN_spec f (by omega) 10 x (by omega) (by
    have : 2 * f * 2 ^ 10 = 2048 * f := by omega
    omega)
  obtain ⟨n, hn⟩ : ∃ n, n = shrN 10 x f := ⟨_, rfl⟩
  rw [← hn] at g1 g2 g3 g4
  obtain ⟨X, hX⟩ : ∃ X, X = x / 2 ^ n := ⟨_, rfl⟩
  rw [← hX] at g2 g4
  obtain ⟨p, p1, p2, p3, p4⟩ := posP_place (symP S zs) (j : Int) S (X - f).toNat (by omega)
  refine ⟨p, n, hn, g3, p2, fun r => ?_, g1, by rw [← hX]; exact g2, fun q hq => ?_⟩
  · unfold encStep
    simp only [Int.toNat_natCast, ← hf, ← hn, ← hX, p1, bitsOf_mod]
  · rw [← hX]
    constructor
    · rintro ⟨e1, e2⟩
      unfold xP at e2
      rw [e1, Int.toNat_natCast, ← hf] at e2
      have e3 : (posP (symP S zs) (j : Int) q).length = (posP (symP S zs) (j : Int) p).length := by omega
      rcases Nat.lt_trichotomy q p with h | h | h
      · have a := posP_at e1
        have b := posP_mono (symP S zs) (j : Int) (show q + 1 ≤ p by omega)
        omega
      · exact h
      · have a := posP_at p3
        have b := posP_mono (symP S zs) (j : Int) (show p + 1 ≤ q by omega)
        omega
    · rintro rfl
      refine ⟨p3, ?_⟩
      unfold xP
      rw [p3, Int.toNat_natCast, ← hf, p4]
      omega

set_option maxRecDepth 100000 in
set_option maxHeartbeats 8000000 in
theorem refEncode {v u : Value} {zs ls : List Int} {log : Int} {w : World} (h : Ints .i64 w v zs) (hu : Ints .i64 w u ls) (hw : -9223372036854775808 ≤ log ∧ log ≤ 9223372036854775807) :
    Calls Try.prog 15 #[v, .int .i64 log, u] w fun e w' => ∃ x, e = .returned (.tuple #[x, .int .i64 (encS zs log ls).2]) ∧ Own .u8 5 w.heap.size w' x (encS zs log ls).1 ∧ Keeps w w' := by
  have HV := Lib.hid h
  have HU := Lib.hid hu
  obtain ⟨_, va, vc, rfl, hvc1, hvc2, _, hcv⟩ := h
  obtain ⟨_, ua, uc, rfl, huc1, huc2, _, hcu⟩ := hu
  have HCV := Lib.hid hcv
  have HCU := Lib.hid hcu
  obtain ⟨K, hK⟩ : ∃ K, K = zs.length := ⟨_, rfl⟩
  obtain ⟨N, hN⟩ : ∃ N, N = ls.length := ⟨_, rfl⟩
  rw [← hK] at hvc1 HCV HV ⊢
  rw [← hN] at huc1 HCU HU ⊢
  have HK := Lib.hid hK
  have HN := Lib.hid hN
  unfold maxLen at hvc2 huc2
  obtain ⟨r, hr⟩ : ∃ r, r = encS zs log ls := ⟨_, rfl⟩
  rw [← hr]
  have HR := Lib.hid hr
  clear hcv hcu hr hK hN
  by_cases hm : ShMay zs log
  case neg =>
    have e : Hid (r = ([], 4)) := by show _ = _; rw [HR.out, encS, if_neg hm]
    have HM := Lib.hid hm
    clear hm
    go_enter Try.func15, Try.ntmps15
    go_wp2_with fail
    refine (refMay HV.out hw).mono ?_
    rw [decide_eq_false HM.out]
    rintro e1 w1 ⟨rfl, hw1⟩
    rw [hw1]
    clear hw1
    go_wp2_with fail
    go_ret2
    exact ⟨_, by rw [e.out]; rfl, by rw [e.out]; exact Own.nil _ _ _ _, Fr.refl _ _⟩
  obtain ⟨lg, rfl⟩ : ∃ lg : Nat, log = (lg : Int) := ⟨log.toNat, by have := hm.1; omega⟩
  have hlg : lg ≤ 9 := by have := hm.2.1; omega
  have HM := Lib.hid hm
  obtain ⟨S, hS⟩ : ∃ S, S = 2 ^ ((lg : Nat) : Int).toNat := ⟨_, rfl⟩
  have hS5 : 32 ≤ S ∧ S ≤ 512 := by rw [hS]; exact pow_logN ⟨hm.1, hm.2.1⟩
  have hSi : (2 : Int) ^ lg = (S : Int) := by rw [hS, Int.toNat_natCast]; simp
  have hK64 : K ≤ 64 := by have := hm.2.2.2.1; have := HK.out; omega
  have hK0 : 0 < K := by have := hm.2.2.1; have := HK.out; omega
  have HS := Lib.hid hS
  have HFB : Hid (∀ j, j < K → 0 ≤ zs.getD j 0 ∧ zs.getD j 0 ≤ 512) := fun j hj => by
    have h1 := hm.2.2.2.2.2.1 _ (getD_mem (zs := zs) (k := j) (by rw [← HK.out]; exact hj))
    have h2 := sum_ge hm.2.2.2.2.2.1 (i := j)
    have h3 := share_size hm
    rw [← HS.out] at h3
    omega
  clear hm hS
  by_cases hbig : 65536 < N
  · have e : Hid (r = ([], 1)) := by
      show _ = _
      rw [HR.out, encS, if_pos HM.out, if_neg (fun h => by have := HN.out; omega)]
    go_enter Try.func15, Try.ntmps15
    go_wp2_with fail
    refine (refMay HV.out hw).mono ?_
    rw [decide_eq_true HM.out]
    rintro e1 w1 ⟨rfl, hw1⟩
    rw [hw1]
    clear hw1
    go_wp2_with fail
    go_ret2
    exact ⟨_, by rw [e.out]; rfl, by rw [e.out]; exact Own.nil _ _ _ _, Fr.refl _ _⟩
  have td0 : decide (65536 < (N : Int)) = false := decide_eq_false (by omega)
  have td0' : decide (65536 < N) = false := decide_eq_false (by omega)
  go_enter Try.func15, Try.ntmps15
  go_wp2_with fail
  refine (refMay HV.out hw).mono ?_
  rw [decide_eq_true HM.out]
  rintro e1 w1 ⟨rfl, hw1⟩
  rw [hw1]
  clear hw1
  go_wp2_with fail
  go_loopw [9] (fun iv wr => ∃ k : Nat, k ≤ N ∧ iv = .int .i64 k ∧ Hid (∀ i, i < k → okSym zs (ls.getD i 0) = true) ∧ wr = w) (fun iv _ => N - (intOf iv).toNat)
  case atStart => exact ⟨0, by omega, rfl, fun i hi => by omega, rfl⟩
  case round =>
    obtain ⟨k, hk, rfl, HA, hww⟩ := hrel
    rw [hww]
    clear hww
    by_cases hlt : k < N
    case pos =>
      obtain ⟨b, off, hab, ck⟩ := HCU.out k hlt
      subst hab
      obtain ⟨z, hz⟩ : ∃ z, z = ls.getD k 0 := ⟨_, rfl⟩
      rw [← hz] at ck
      have HZ := Lib.hid hz
      clear hz
      have ti1 : (0 : Int) ≤ (k : Int) := by omega
      have ti2 : (k : Int) < (N : Int) := by omega
      have hbad : okSym zs z = false → Hid (r = ([], 1)) := fun hb => by
        show _ = _
        rw [HR.out, encS, if_pos HM.out, if_neg]
        rintro ⟨_, h2⟩
        have := List.all_eq_true.1 h2 z (by rw [HZ.out]; exact getD_mem (by rw [← HN.out]; exact hlt))
        rw [hb] at this
        cases this
      have hor : z < 0 ∨ (0 ≤ z ∧ (K : Int) ≤ z) ∨ (0 ≤ z ∧ z < (K : Int)) := by omega
      rcases hor with h1 | ⟨h1, h2⟩ | ⟨h1, h2⟩
      · have e := hbad (by unfold okSym; rw [decide_eq_false_iff_not]; omega)
        clear hbad
        go_wp2_with fail
        go_ret2
        go_light
        exact ⟨_, by rw [e.out]; rfl, by rw [e.out]; exact Own.nil _ _ _ _, Fr.refl _ _⟩
      · have e := hbad (by unfold okSym; rw [decide_eq_false_iff_not]; have := HK.out; omega)
        have d1 : decide (z < 0) = false := decide_eq_false (by omega)
        clear hbad
        go_wp2_with fail
        go_ret2
        go_light
        exact ⟨_, by rw [e.out]; rfl, by rw [e.out]; exact Own.nil _ _ _ _, Fr.refl _ _⟩
      · obtain ⟨zn, rfl⟩ := Int.eq_ofNat_of_zero_le h1
        obtain ⟨b', off', hvb, cz⟩ := HCV.out zn (by omega)
        subst hvb
        obtain ⟨y, hy⟩ : ∃ y, y = zs.getD zn 0 := ⟨_, rfl⟩
        rw [← hy] at cz
        have d1 : decide ((zn : Int) < 0) = false := decide_eq_false (by omega)
        have d2 : decide ((K : Int) ≤ (zn : Int)) = false := decide_eq_false (by omega)
        have d2' : decide (K ≤ zn) = false := decide_eq_false (by omega)
        have HY := Lib.hid hy
        clear hy
        by_cases hy0 : y = 0
        · have e := hbad (by unfold okSym; rw [decide_eq_false_iff_not]; rintro ⟨_, _, h3⟩; rw [Int.toNat_natCast, ← HY.out] at h3; exact h3 hy0)
          subst hy0
          clear hbad
          go_wp2_with fail
          go_ret2
          go_light
          exact ⟨_, by rw [e.out]; rfl, by rw [e.out]; exact Own.nil _ _ _ _, Fr.refl _ _⟩
        · have d3 : (y == 0) = false := by simpa using hy0
          have HOK : Hid (okSym zs (zn : Int) = true) := by
            show _ = _
            unfold okSym
            rw [decide_eq_true_iff]
            exact ⟨h1, by have := HK.out; omega, by rw [Int.toNat_natCast, ← HY.out]; exact hy0⟩
          clear hbad hy0
          go_wp2_with fail
          go_roundw
          all_goals go_light
          case rel =>
            refine ⟨k + 1, by omega, by go_num, ?_, trivial⟩
            intro i hi
            by_cases e : i = k
            · rw [e, ← HZ.out]; exact HOK.out
            · exact HA.out i (by omega)
          case measure => simp [intOf]; omega
    case neg =>
      obtain rfl : k = N := by omega
      have HOK : Hid (∀ s ∈ ls, okSym zs s = true) := fun s hs => by
        obtain ⟨i, hi, rfl⟩ := mem_getD hs
        exact HA.out i (by rw [HN.out]; exact hi)
      have hlt2 : ((lg : Nat) : Int).toNat = lg := Int.toNat_natCast lg
      have e : Hid (r = (pack ((encAll S zs ls).2 ++ bitsOf lg ((encAll S zs ls).1 - (S : Int)) ++ [1]), 0)) := by
        show _ = _
        have hk65 : ls.length ≤ 65536 := by have := HN.out; omega
        have hl2 : (2 : Nat) ^ lg = S := by rw [HS.out, hlt2]
        rw [HR.out, encS, if_pos HM.out, if_pos ⟨hk65, okSyms.2 HOK.out⟩, hlt2, encRow, hl2, hSi]
      clear hlt2
      go_wp2_with fail
      refine (refTable HV.out HM.out).mono ?_
      rw [← HS.out]
      rintro e2 w2 ⟨b, rfl, hb1, hb2, hpr, k2⟩
      have HPR := Lib.hid hpr
      have K2 := Lib.hid k2
      have HB2 : Hid (b < w2.heap.size) := hb2
      have HEB := Lib.hid (fun (k : Nat) => enc_bound HM.out (l := ls.drop k) (fun z hz => HOK.out z (List.mem_of_mem_drop hz)))
      rw [← HS.out] at HEB
      have HEP := Lib.hid (fun (j : Nat) (h1 : j < zs.length) (h2 : zs.getD j 0 ≠ 0) (x : Int) (h3 : ((2 ^ ((lg : Nat) : Int).toNat : Nat) : Int) ≤ x) (h4 : x < 2 * ((2 ^ ((lg : Nat) : Int).toNat : Nat) : Int)) => enc_place HM.out h1 h2 h3 h4)
      rw [← HS.out] at HEP
      clear hpr k2 hb1 hb2
      have hkN : k ≤ 65536 := by omega
      go_wp2_with fail
      go_loopw [14, 13, 12] (fun iv sv rv wr => ∃ (i : Nat) (st : Int), i ≤ k ∧ iv = .int .i64 ((i : Int) - 1) ∧ sv = .int .i64 st ∧ Hid (st = (encAll S zs (ls.drop i)).1) ∧ Own .i64 3 w2.heap.size wr rv (encAll S zs (ls.drop i)).2 ∧ Keeps w2 wr) (fun iv _ _ _ => (intOf iv + 1).toNat)
      case atStart => 
        have h0 : encAll S zs (ls.drop k) = ((S : Int), []) := by rw [List.drop_eq_nil_of_le (by rw [HN.out]; exact Nat.le_refl _), encAll_nil]
        exact ⟨k, (S : Int), by omega, rfl, rfl, by show _ = _; rw [h0], by rw [h0]; exact Own.nil _ _ _ _, Fr.refl _ _⟩
      case round =>
        obtain ⟨i, st, hi, rfl, rfl, HST, hown, hkp⟩ := hrel
        obtain ⟨p, hp1, hp2, hbin⟩ := HEB.out i
        rw [← HST.out] at hp1
        have hrl := enc_length S zs (ls.drop i)
        rw [List.length_drop] at hrl
        obtain ⟨R, hR⟩ : ∃ R, R = (encAll S zs (ls.drop i)).2 := ⟨_, rfl⟩
        rw [← hR] at hown hbin hrl
        have HEA : Hid (encAll S zs (ls.drop i) = (st, R)) := by show _ = _; rw [HST.out, hR]
        have hRl : R.length ≤ 655360 := by have := HN.out; omega
        have HO := Lib.hid hown
        have HKP := Lib.hid hkp
        have HBIN := Lib.hid hbin
        have hst1 : (S : Int) ≤ st ∧ st < 2 * (S : Int) := by omega
        clear hR hrl hown hkp hbin hp1 hp2
        by_cases hi0 : i = 0
        case pos =>
          subst hi0
          have h0 : ls.drop 0 = ls := rfl
          obtain ⟨oa, oc, rfl⟩ := HO.out.form
          have HE2 : Hid (r = (pack (R ++ bitsOf lg (st - (S : Int)) ++ [1]), 0)) := by
            have := HEA.out
            rw [h0] at this
            show _ = _
            rw [e.out, this]
          clear h0
          have hw1 : st - (S : Int) < 2 ^ lg := by rw [hSi]; omega
          have HW1 := Lib.hid hw1
          clear hw1
          go_wp2_with fail
          refine (refPutOk (n := lg) (x := st - (S : Int)) HO.out.ints (by omega) (by omega) (by omega) HW1.out).mono ?_
          rintro e5 w5 ⟨v5, rfl, ho5, k5⟩
          have HK5 : Hid (Keeps w2 w5) := HKP.out.keeps k5
          have hl5 : (R ++ bitsOf lg (st - (S : Int))).length ≤ 1000000 := by rw [List.length_append, bitsOf_length]; omega
          have hwl : wr.heap.size ≤ w5.heap.size := k5.size
          have HO5 := Lib.hid ho5
          have HBIN5 : Hid (Bin (R ++ bitsOf lg (st - (S : Int)) ++ [1])) := (HBIN.out.append (bitsOf_bin _ _)).append (by intro z hz; simp at hz; exact .inr hz)
          clear ho5 k5
          go_wp2_with (at_builtin; go_loud (refine wpList_int rfl (.tmp 121) (.tmp 122) rfl elemI v5 rfl rfl HO5.out (by decide) (by omega) hwl ?_); intro v6 w6 hown6 hfr6 hat6; have H6 := Lib.hid hown6; have F6 := Lib.hid hfr6; clear hown6 hfr6 hat6)
          refine (refPack H6.out.ints HBIN5.out (by rw [List.length_append]; simp only [List.length_singleton]; omega)).mono ?_
          rintro e7 w7 ⟨v7, rfl, ho7, k7⟩
          have HO7 := Lib.hid ho7
          have K7 : Hid (Keeps w w7) := (Keeps.own (K2.out.keeps HK5.out) HO5.out (by have := K2.out.size; have := HKP.out.size; omega) F6.out).keeps k7
          have hsz7 : Hid (w.heap.size ≤ w6.heap.size) := by have h1 := K2.out.size; have h2 := HKP.out.size; have h3 := F6.out.size; show _ ≤ _; omega
          clear ho7 k7
          go_wp2_with fail
          go_ret2
          go_light
          exact ⟨_, by rw [HE2.out]; rfl, by rw [HE2.out]; exact HO7.out.mono hsz7.out, K7.out⟩
        case neg =>
          obtain ⟨i', rfl⟩ : ∃ i', i = i' + 1 := ⟨i - 1, by omega⟩
          have hti : ((i' + 1 : Nat) : Int) - 1 = (i' : Int) := by omega
          rw [hti]
          clear hti hi0
          obtain ⟨bu, offu, hub, cu⟩ := HCU.out i' (by omega)
          subst hub
          have cu := HKP.out.cell (fun h => h) (K2.out.cell (fun h => h) cu)
          have hoi := HA.out i' (by omega)
          have HDR : Hid (ls.drop i' = ls.getD i' 0 :: ls.drop (i' + 1)) := by
            show _ = _
            rw [List.drop_eq_getElem_cons (by rw [← HN.out]; omega), List.getD_eq_getElem?_getD, List.getElem?_eq_getElem (by rw [← HN.out]; omega)]
            rfl
          obtain ⟨s, hs⟩ : ∃ s, s = ls.getD i' 0 := ⟨_, rfl⟩
          rw [← hs] at cu hoi HDR
          obtain ⟨hs0, hsK, hsz⟩ : 0 ≤ s ∧ s < zs.length ∧ zs.getD s.toNat 0 ≠ 0 := by simpa [okSym] using hoi
          rw [← HK.out] at hsK
          obtain ⟨j, rfl⟩ := Int.eq_ofNat_of_zero_le hs0
          rw [Int.toNat_natCast] at hsz
          have hjK : j < K := by omega
          obtain ⟨bv, offv, hvb, cv⟩ := HCV.out j hjK
          subst hvb
          have CVJ : Hid (∀ wx, Keeps w2 wx → wx.cell? ⟨bv, offv + j, none⟩ = some (.int .i64 (zs.getD j 0))) := fun wx h => h.cell (fun h => h) (K2.out.cell (fun h => h) cv)
          obtain ⟨p0, n, hn, hn10, hp0, hes, hg1, hg2, huq⟩ := HEP.out j (by rw [← HK.out]; exact hjK) hsz st (by omega) (by omega)
          have hfb := HFB.out j hjK
          obtain ⟨f, hf⟩ : ∃ f, f = zs.getD j 0 := ⟨_, rfl⟩
          rw [← hf] at hsz hn hg1 hg2 hfb CVJ
          have HES := Lib.hid (hes R)
          have HG1 := Lib.hid hg1
          have HG2 := Lib.hid hg2
          have HUQ := Lib.hid huq
          clear hs hoi hs0 hsK hn hes hg1 hg2 huq hf cv
          have ti1 : (0 : Int) ≤ (i' : Int) := by omega
          have ti2 : (i' : Int) < (k : Int) := by omega
          have ti3 : (j : Int) < (K : Int) := by omega
          obtain ⟨oa, oc, rfl⟩ := HO.out.form
          have HO0 : Hid (Own .i64 3 w2.heap.size wr (.slice oa R.length oc) (R ++ bitsOf 0 st)) := by have := HO.out; show Own _ _ _ _ _ _; simpa [bitsOf] using this
          go_wp2_with fail
          go_loopw [16, 12] (fun xv rv wx => ∃ (m : Nat) (x : Int), m ≤ n ∧ xv = .int .i64 x ∧ Hid (x = st / 2 ^ m) ∧ 0 ≤ x ∧ x ≤ 1024 ∧ Own .i64 3 w2.heap.size wx rv (R ++ bitsOf m st) ∧ Keeps w2 wx) (fun xv _ _ => (intOf xv).toNat)
          case atStart => exact ⟨0, st, by omega, rfl, by show st = st / 2 ^ 0; simp, by omega, by omega, HO0.out, HKP.out⟩
          case round =>
            obtain ⟨m, x, hm, rfl, HX, hx0, hx1, hown2, hkp2⟩ := hrel
            have cv := CVJ.out _ hkp2
            by_cases hltm : m < n
            case pos =>
              have hge := HG1.out m hltm
              rw [← HX.out] at hge
              have td1 : decide (2 * f ≤ x) = true := decide_eq_true hge
              have hroom : (R ++ bitsOf m st).length ≤ 9000000000000 := by rw [List.length_append, bitsOf_length]; omega
              have HOW := Lib.hid hown2
              have HKW := Lib.hid hkp2
              have hsz2 := hkp2.size
              clear hown2 hkp2
              go_wp2_with (at_builtin; go_loud (refine wpList_int rfl (.tmp 81) (.tmp 84) rfl elemI _ rfl rfl HOW.out (wf_bit (by omega)) (by omega) hsz2 ?_); intro v6 w6 hown6 hfr6 hat6; have H6 := Lib.hid hown6; have F6 := Lib.hid hfr6; clear hown6 hfr6 hat6)
              go_roundw
              all_goals go_light
              case rel =>
                refine ⟨m + 1, x / 2, by omega, by first | rfl | go_num, ?_, by omega, by omega, ?_, HKW.out.own HOW.out (Nat.le_refl _) F6.out⟩
                · show x / 2 = st / 2 ^ (m + 1)
                  rw [HX.out, Int.ediv_ediv_of_nonneg (by exact Int.le_of_lt (pow_pos2 m)), Int.pow_succ]
                · rw [bitsOf_succ, ← HX.out, ← List.append_assoc]
                  exact H6.out
              case measure => simp [intOf]; omega
            case neg =>
              obtain rfl : m = n := by omega
              have hlx := HG2.out
              rw [← HX.out] at hlx
              have td1 : decide (2 * f ≤ x) = false := decide_eq_false (by omega)
              have HOW := Lib.hid hown2
              have HKW := Lib.hid hkp2
              have HPW := Lib.hid (HPR.out.fr hkp2 (fun h => h))
              rw [← HX.out] at HUQ
              clear hown2 hkp2
              go_wp2_with fail
              go_loopw [17, 13] (fun qv sv wx => ∃ (q : Nat) (y : Int), q ≤ S ∧ qv = .int .i64 q ∧ sv = .int .i64 y ∧ Hid (y = if p0 < q then (S : Int) + (p0 : Int) else st) ∧ wx = wr) (fun qv _ _ => S - (intOf qv).toNat)
              case atStart => exact ⟨0, st, by omega, rfl, rfl, by show _ = _; rw [if_neg (by omega)], rfl⟩
              case round =>
                obtain ⟨q, y, hq, rfl, rfl, HY, hwx⟩ := hrel
                rw [hwx]
                clear hwx
                by_cases hltq : q < S
                case pos =>
                  obtain ⟨c0, _, _, c1'⟩ := HPW.out.at hltq
                  have c1 := c1' hltq
                  clear c1'
                  have hu := HUQ.out q hltq
                  obtain ⟨a1, ha1⟩ : ∃ a1, a1 = (symP S zs).getD q 0 := ⟨_, rfl⟩
                  obtain ⟨a2, ha2⟩ : ∃ a2, a2 = xP zs (symP S zs) q := ⟨_, rfl⟩
                  have hPP : symP (2 ^ ((lg : Nat) : Int).toNat) zs = symP S zs := by rw [← HS.out]
                  try rw [hPP] at c0 c1
                  rw [← ha1] at c0 hu
                  rw [← ha2] at c1 hu
                  have tq1 : (0 : Int) ≤ (q : Int) := by omega
                  have tq2 : (q : Int) < (S : Int) := by omega
                  clear ha1 ha2 hPP
                  by_cases hqp : q = p0
                  · obtain ⟨u1, u2⟩ := hu.2 hqp
                    subst u1
                    subst u2
                    subst hqp
                    clear hu
                    go_wp2_with fail
                    go_roundw
                    all_goals go_light
                    case rel => exact ⟨q + 1, (S : Int) + (q : Int), by omega, by go_num, rfl, by show _ = _; rw [if_pos (by omega)], trivial⟩
                    case measure => simp [intOf]; omega
                  · have HY2 : Hid (y = if p0 < q + 1 then (S : Int) + (p0 : Int) else st) := by
                      show _ = _
                      rw [HY.out]
                      by_cases h : p0 < q
                      · rw [if_pos h, if_pos (by omega)]
                      · rw [if_neg h, if_neg (by omega)]
                    by_cases h1 : a1 = (j : Int)
                    · have h2 : ¬ a2 = x := fun h => hqp (hu.1 ⟨h1, h⟩)
                      subst h1
                      have td2 : (a2 == x) = false := by simpa using h2
                      clear hu h2
                      go_wp2_with fail
                      go_roundw
                      all_goals go_light
                      case rel => exact ⟨q + 1, y, by omega, by go_num, rfl, HY2.out, trivial⟩
                      case measure => simp [intOf]; omega
                    · have td2 : (a1 == (j : Int)) = false := by simpa using h1
                      clear hu h1
                      go_wp2_with fail
                      go_roundw
                      all_goals go_light
                      case rel => exact ⟨q + 1, y, by omega, by go_num, rfl, HY2.out, trivial⟩
                      case measure => simp [intOf]; omega
                case neg =>
                  obtain rfl : q = S := by omega
                  have hye : Hid (y = (q : Int) + (p0 : Int)) := by show _ = _; rw [HY.out, if_pos hp0]
                  go_wp2_with fail
                  go_roundw
                  all_goals go_light
                  case rel =>
                    have hen : encAll q zs (ls.drop i') = ((q : Int) + (p0 : Int), R ++ bitsOf m st) := by
                      rw [HDR.out, encAll_cons, HEA.out, HES.out]
                    refine ⟨i', y, by omega, by go_num, rfl, ?_, ?_, HKW.out⟩
                    · show _ = _
                      rw [hen, hye.out]
                    · rw [hen]; exact HOW.out
                  case measure => simp [intOf] <;> omega
end Go.Proofs.Ytjdpijjoblfoaaa
