/- huff's Lengths. -/
import Derived.Test.YtbbljpkboojjhaaHfLenS
import Derived.Test.YtbbljpkboojjhaaTree
namespace Go.Proofs.Ytbbljpkboojjhaa
open Go.RowKit

/-- the first j counts halved -/
def hk (cs : List Int) : Nat → List Int
  | 0 => cs
  | j + 1 => (hk cs j).set j (halfC (cs.getD j 0))
theorem hk_length (cs : List Int) : ∀ j, (hk cs j).length = cs.length
  | 0 => rfl
  | j + 1 => by simp only [hk, List.length_set]; exact hk_length cs j
theorem hk_get (cs : List Int) : ∀ j i, i < cs.length → j ≤ cs.length → (hk cs j).getD i 0 = if i < j then halfC (cs.getD i 0) else cs.getD i 0
  | 0, i, _, _ => by simp [hk]
  | j + 1, i, h, hj => by
    have ih := hk_get cs j i h (by omega)
    simp only [hk]
    by_cases e : i = j
    · subst e
      rw [if_pos (by omega), List.getD_eq_getElem?_getD, List.getElem?_set_self (by rw [hk_length]; exact h)]
      rfl
    · rw [show ((hk cs j).set j (halfC (cs.getD j 0))).getD i 0 = (hk cs j).getD i 0 from by rw [List.getD_eq_getElem?_getD, List.getElem?_set_ne (fun h => e h.symm), ← List.getD_eq_getElem?_getD], ih]
      by_cases h2 : i < j
      · rw [if_pos h2, if_pos (by omega)]
      · rw [if_neg h2, if_neg (by omega)]
theorem hk_all (cs : List Int) : hk cs cs.length = cs.map halfC := by
  apply List.ext_getElem?
  intro i
  by_cases h : i < cs.length
  · have h1 := hk_get cs cs.length i h (Nat.le_refl _)
    rw [if_pos h] at h1
    rw [List.getElem?_eq_getElem (by rw [hk_length]; exact h), List.getElem?_eq_getElem (by rw [List.length_map]; exact h)]
    rw [List.getD_eq_getElem?_getD, List.getElem?_eq_getElem (by rw [hk_length]; exact h)] at h1
    have h2 := map_half cs h
    rw [List.getD_eq_getElem?_getD, List.getElem?_eq_getElem (by rw [List.length_map]; exact h)] at h2
    simp only [Option.getD_some] at h1 h2
    rw [h1, h2]
  · rw [List.getElem?_eq_none (by rw [hk_length]; omega), List.getElem?_eq_none (by rw [List.length_map]; omega)]
theorem hk_same {cs : List Int} {j : Nat} (h : j < cs.length) (hz : ¬ 0 < cs.getD j 0) : hk cs (j + 1) = hk cs j := by
  simp only [hk]
  have : halfC (cs.getD j 0) = (hk cs j).getD j 0 := by
    rw [hk_get cs j j h (by omega), if_neg (by omega)]
    unfold halfC
    rw [if_neg hz]
  rw [this]
  apply List.ext_getElem?
  intro i
  by_cases e : i = j
  · subst e
    rw [List.getElem?_set_self (by rw [hk_length]; exact h), List.getD_eq_getElem?_getD, List.getElem?_eq_getElem (by rw [hk_length]; exact h)]
    rfl
  · rw [List.getElem?_set_ne (fun h => e h.symm)]
theorem okC_all {cs : List Int} : cs.all okC = true ↔ ∀ i, i < cs.length → 0 ≤ cs.getD i 0 ∧ cs.getD i 0 ≤ 4294967295 := by
  rw [List.all_eq_true]
  refine ⟨fun h i hi => ?_, fun h x hx => ?_⟩
  · have := h _ (getD_in hi)
    exact of_decide_eq_true this
  · obtain ⟨i, hi, rfl⟩ := in_getD hx
    exact decide_eq_true (h i hi)
theorem max_zero {cs : List Int} (h : ∀ i, i < cs.length → 0 ≤ cs.getD i 0 ∧ cs.getD i 0 ≤ 4294967295) (h0 : 0 < cs.length) : (maxS cs = 0 ↔ lastK cs cs.length = 0) ∧ 0 ≤ maxS cs := by
  have hm : 0 ≤ maxS cs := (h _ (greK_lt cs cs.length h0)).1
  refine ⟨⟨fun e => ?_, fun e => ?_⟩, hm⟩
  · have h1 := (gre_bound h0 (M := 0)).1 (by omega)
    rcases Nat.eq_zero_or_pos (lastK cs cs.length) with h2 | h2
    · exact h2
    · have h3 := lastK_ne cs cs.length h2
      have h4 := lastK_le cs cs.length
      have h5 := h1 (lastK cs cs.length - 1) (by omega)
      have h6 := h (lastK cs cs.length - 1) (by omega)
      omega
  · exact lastK_zero cs cs.length _ (by omega) (greK_lt cs cs.length h0)

set_option maxRecDepth 100000 in
set_option maxHeartbeats 4000000 in
theorem lengthsNo {v : Value} {cs : List Int} {w : World} (h : Ints .i64 w v cs) (hz : cs.length ≤ 17592186043904) (hn : ¬ csMay cs) :
    Calls Try.prog 8 #[v] w fun e w' => e = .returned (.tuple #[.slice none 0 0, .int .i64 1]) ∧ Keeps w w' := by
  by_cases h0 : 0 < cs.length
  case neg =>
    obtain rfl : cs = [] := List.eq_nil_of_length_eq_zero (by omega)
    have HCL := Lib.hid (cloneNone h)
    have HV := Lib.hid h
    obtain ⟨_, a, cap, rfl, _⟩ := h
    clear hn hz h0
    go_enter Try.func8, Try.ntmps8
    go_wp2_with fail
    refine HCL.out.mono ?_
    rintro e1 w1 ⟨v1, rfl, i1, k1⟩
    have HB := Lib.hid (badContains i1)
    obtain ⟨_, a1, c1, rfl, _⟩ := i1
    have K1 := Lib.hid k1
    clear k1
    simp only [List.length_nil, List.all_nil, Bool.not_true] at HB ⊢
    go_wp2_with fail
    refine HB.out.mono ?_
    rintro e2 w2 ⟨rfl, hw2⟩
    rw [hw2]
    clear hw2
    go_wp2_with fail
    go_ret2
    go_light
    exact ⟨rfl, K1.out⟩
  case pos =>
    have HCL := Lib.hid (cloneInts h hz h0)
    have HN := Lib.hid hn
    obtain ⟨_, a, cap, rfl, hcap, hmax, _, _⟩ := h
    obtain ⟨N, hN⟩ : ∃ N, N = cs.length := ⟨_, rfl⟩
    rw [← hN] at h0 hz hcap ⊢
    have HL := Lib.hid hN
    clear hn hN
    go_enter Try.func8, Try.ntmps8
    rw [← HL.out] at HCL
    go_wp2_with fail
    refine HCL.out.mono ?_
    rintro e1 w1 ⟨v1, rfl, o1, k1⟩
    have HB := Lib.hid (badContains o1.ints)
    have HMX := Lib.hid (maxInts o1.ints (by rw [← HL.out]; exact h0))
    obtain ⟨a1, c1, hv1⟩ := o1.form
    rw [← HL.out] at hv1
    subst hv1
    have K1 := Lib.hid k1
    clear k1 o1
    by_cases h256 : 256 < N
    case pos =>
      have t1 : (256 : Int) < (N : Int) := by omega
      have t2 : decide ((256 : Int) < (N : Int)) = true := decide_eq_true t1
      go_wp2_with fail
      go_ret2
      go_light
      exact ⟨rfl, K1.out⟩
    case neg =>
      have t1 : ¬ (256 : Int) < (N : Int) := by omega
      have t2 : decide ((256 : Int) < (N : Int)) = false := decide_eq_false t1
      cases hall : cs.all okC with
      | false =>
        rw [hall] at HB
        clear hall
        go_wp2_with fail
        refine HB.out.mono ?_
        rintro e2 w2 ⟨rfl, hw2⟩
        rw [hw2]
        clear hw2
        go_wp2_with fail
        go_ret2
        go_light
        exact ⟨rfl, K1.out⟩
      | true =>
        rw [hall] at HB
        have hok := okC_all.1 hall
        have hm := max_zero hok (by rw [← HL.out]; exact h0)
        have hz0 : maxS cs = 0 := by
          rw [hm.1]
          rcases Nat.eq_zero_or_pos (lastK cs cs.length) with h2 | h2
          · exact h2
          · exact absurd ⟨by rw [← HL.out]; omega, hok, h2⟩ HN.out
        unfold maxS at hz0
        rw [hz0] at HMX
        have t3 : ((N : Int) == 0) = false := by simp; omega
        have t4 : ¬ ((N : Int) = 0) := by omega
        clear hall hok hm hz0
        go_wp2_with fail
        refine HB.out.mono ?_
        rintro e2 w2 ⟨rfl, hw2⟩
        rw [hw2]
        clear hw2
        go_wp2_with fail
        refine HMX.out.mono ?_
        rintro e2 w2 ⟨rfl, hw2⟩
        rw [hw2]
        clear hw2
        go_wp2_with fail
        go_ret2
        go_light
        exact ⟨rfl, K1.out⟩

set_option maxRecDepth 100000 in
set_option maxHeartbeats 4000000 in
theorem lengthsYes {v : Value} {cs : List Int} {w : World} (h : Ints .i64 w v cs) (hn : csMay cs) :
    Calls Try.prog 8 #[v] w fun e w' => ∃ x, e = .returned (.tuple #[x, .int .i64 0]) ∧ Own .i64 3 w.heap.size w' x (lengthsS cs) ∧ Keeps w w' := by
  have hfit := Fit.start hn
  have hM1 := lastK_le cs cs.length
  have h0 : 0 < cs.length := by have := hn.2.2; omega
  have HCL := Lib.hid (cloneInts h (by have := hn.1; omega) h0)
  obtain ⟨_, a, cap, rfl, hcap, hmax, _, _⟩ := h
  obtain ⟨N, hN⟩ : ∃ N, N = cs.length := ⟨_, rfl⟩
  obtain ⟨M, hM⟩ : ∃ M, M = lastK cs cs.length := ⟨_, rfl⟩
  have h256 : N ≤ 256 := by rw [hN]; exact hn.1
  have hok := hn.2.1
  have hmz := max_zero hok h0
  have hM0 : 0 < M := by rw [hM]; exact hn.2.2
  have hMn : cs.getD (M - 1) 0 ≠ 0 := by rw [hM]; exact lastK_ne cs cs.length hn.2.2
  have HZ : Hid (∀ i, M ≤ i → i < N → cs.getD i 0 = 0) := by rw [hM, hN]; exact lastK_zero cs cs.length
  have hx0 : ¬ maxS cs = 0 := by rw [hmz.1, ← hM]; omega
  obtain ⟨x, hx⟩ : ∃ x, x = maxS cs := ⟨_, rfl⟩
  rw [← hx] at hmz hx0
  obtain ⟨R, hR⟩ : ∃ R, R = lengthsS cs := ⟨_, rfl⟩
  have HR : Hid (R = lenS 32 (cs.take M)) := by show _ = _; rw [hR, hM]; rfl
  rw [← hR]
  rw [← hM] at hM1 hfit
  rw [← hN] at h0 hcap hM1 ⊢
  have HFIT := Lib.hid hfit
  have HOKC := Lib.hid hok
  have HL := Lib.hid hN
  have HX := Lib.hid hx
  have HMN := Lib.hid hMn
  have hallt : cs.all okC = true := okC_all.2 hok
  have HALL := Lib.hid hallt
  clear hfit hn hN hM hR hx hok hmz hMn hallt
  rw [← HL.out] at HCL
  go_enter Try.func8, Try.ntmps8
  go_wp2_with fail
  refine HCL.out.mono ?_
  rintro e1 w1 ⟨v1, rfl, o1, k1⟩
  have hb := badContains o1.ints
  rw [HALL.out] at hb
  have HB := Lib.hid hb
  have hmx := maxInts o1.ints (by rw [← HL.out]; exact h0)
  have HMX : Hid (Calls Try.prog 20 #[v1] w1 fun e w' => e = .returned (.int .i64 x) ∧ w' = w1) := by show Calls _ _ _ _ _; rw [HX.out]; exact hmx
  obtain ⟨g, c1, hv1, hc1, hc2, hg, _⟩ := o1.formNe (by rw [← HL.out]; exact h0)
  rw [← HL.out] at hv1 hc1
  subst hv1
  have HO1 := Lib.hid o1
  have K1 := Lib.hid k1
  have t1 : ¬ (256 : Int) < (N : Int) := by omega
  have t2 : decide ((256 : Int) < (N : Int)) = false := decide_eq_false t1
  have t3 : ((N : Int) == 0) = false := by simp; omega
  have t4 : ¬ ((N : Int) = 0) := by omega
  have t5 : (x == 0) = false := by simp; exact hx0
  clear hb hmx k1 o1
  go_wp2_with fail
  refine HB.out.mono ?_
  rintro e2 w2 ⟨rfl, hw2⟩
  rw [hw2]
  clear hw2
  go_wp2_with fail
  refine HMX.out.mono ?_
  rintro e2 w2 ⟨rfl, hw2⟩
  rw [hw2]
  clear hw2
  go_wp2_with fail
  go_loopw [4] (fun ov wr => ∃ k : Nat, M ≤ k ∧ k ≤ N ∧ ov = .slice (some ⟨g, 0, none⟩) k c1 ∧ wr = w1) (fun ov _ => match ov with | .slice _ n _ => n | _ => 0)
  case atStart => exact ⟨N, hM1, Nat.le_refl _, rfl, rfl⟩
  case round =>
    obtain ⟨k, hk1, hkN, rfl, hwr⟩ := hrel
    rw [hwr]
    clear hwr
    obtain ⟨j, rfl⟩ : ∃ j, k = j + 1 := ⟨k - 1, by omega⟩
    obtain ⟨cj, _⟩ := HO1.out.at (i := j) (by rw [← HL.out]; omega)
    obtain ⟨z, hz⟩ : ∃ z, z = cs.getD j 0 := ⟨_, rfl⟩
    rw [← hz] at cj
    have HZJ := Lib.hid hz
    clear hz
    have ts : (((j + 1 : Nat) : Int) - 1) = (j : Int) := by omega
    have ti1 : (j : Int) < ((j + 1 : Nat) : Int) := by omega
    have ti0 : (0 : Int) ≤ (j : Int) := by omega
    by_cases hlt : M < j + 1
    case pos =>
      have hz0 : z = 0 := by rw [HZJ.out]; exact HZ.out j (by omega) (by omega)
      subst hz0
      have tc : j ≤ c1 := by omega
      go_wp2_with fail
      go_roundw
      all_goals go_light
      case rel => exact ⟨j, by omega, by omega, rfl, trivial⟩
      case measure => simp
    case neg =>
      obtain rfl : M = j + 1 := by omega
      have hzn : ¬ z = 0 := by rw [HZJ.out]; exact HMN.out
      have hzb : (z == 0) = false := by simp; exact hzn
      have HOT := Lib.hid (HO1.out.take (j := j + 1) (by omega))
      have HCT : Hid ((cs.take (j + 1)).length = j + 1) := by show _ = _; rw [List.length_take, ← HL.out]; omega
      have HCJ := Lib.hid cj
      go_wp2_with fail

      go_loopg [] 32 (fun m wr => ∃ own : List Int, Own .i64 3 w.heap.size wr (.slice (some ⟨g, 0, none⟩) (j + 1) c1) own ∧ own.length = j + 1 ∧ Fit m own ∧ R = lenS m own ∧ Keeps w wr)
      case atStart => exact ⟨cs.take (j + 1), HOT.out, HCT.out, HFIT.out, HR.out, K1.out⟩
      case round =>
        obtain ⟨own, hown, hlen, hfit, hr, hkp⟩ := hrel
        have HO := Lib.hid hown
        have HF := Lib.hid hfit
        have HRO := Lib.hid hr
        have HK := Lib.hid hkp
        have HLN := Lib.hid hlen
        have hsz := hkp.size
        clear hown hlen hfit hr hkp
        go_wp2_with fail
        refine (huffTree HO.out.ints HF.out.ok.len HF.out.ok.bound).mono ?_
        rintro e3 w3 ⟨x3, rfl, o3, k3⟩
        have hl3 : (treeS own).length = j + 1 := by rw [treeS_length]; exact HLN.out
        obtain ⟨g3, c3, hv3, _, _, hg3, _⟩ := o3.formNe (by omega)
        rw [hl3] at hv3
        subst hv3
        have hmx3 := maxInts o3.ints (by omega)
        have HO3 := Lib.hid o3
        have HOW := Lib.hid (HO.out.keeps k3)
        have HK3 : Hid (Keeps w w3) := HK.out.trans k3 (fun _ _ h => h)
        obtain ⟨y, hy⟩ : ∃ y, y = maxS (treeS own) := ⟨_, rfl⟩
        have HM3 : Hid (Calls Try.prog 20 #[.slice (some ⟨g3, 0, none⟩) (j + 1) c3] w3 fun e w' => e = .returned (.int .i64 y) ∧ w' = w3) := by show Calls _ _ _ _ _; rw [hy]; exact hmx3
        have HY := Lib.hid hy
        clear hmx3 hy o3 k3 hl3
        go_wp2_with fail
        refine HM3.out.mono ?_
        rintro e4 w4 ⟨rfl, hw4⟩
        rw [hw4]
        clear hw4
        by_cases hy11 : y ≤ 11
        case pos =>
          have td : decide (y ≤ 11) = true := decide_eq_true hy11
          have HRE : Hid (R = treeS own) := by
            show _ = _
            rw [HRO.out]
            match gk with
            | 0 => rfl
            | m + 1 => simp only [lenS]; rw [if_pos (by rw [← HY.out]; exact hy11)]
          go_wp2_with fail
          go_ret2
          go_light
          exact ⟨_, rfl, by rw [HRE.out]; exact HO3.out.mono hsz, HK3.out⟩
        case neg =>
          obtain ⟨m, hm⟩ : ∃ m, gk = m + 1 := by
            rcases Nat.eq_zero_or_pos gk with h | h
            · subst h
              have := HF.out.done
              rw [← HY.out] at this
              exact absurd this hy11
            · exact ⟨gk - 1, by omega⟩
          subst hm
          have td : decide (y ≤ 11) = false := decide_eq_false hy11
          have HRE : Hid (R = lenS m (own.map halfC)) := by
            show _ = _
            rw [HRO.out]
            simp only [lenS]
            rw [if_neg (by rw [← HY.out]; exact hy11)]
          go_wp2_with fail
          go_loopw [47] (fun iv wx => ∃ i : Nat, i ≤ j + 1 ∧ iv = .int .i64 i ∧ Own .i64 3 w.heap.size wx (.slice (some ⟨g, 0, none⟩) (j + 1) c1) (hk own i) ∧ Keeps w wx) (fun iv _ => (j + 1) - (intOf iv).toNat)
          case atStart => exact ⟨0, by omega, rfl, HOW.out, HK3.out⟩
          case round =>
            obtain ⟨i, hi, rfl, hox, hkx⟩ := hrel
            have HOX := Lib.hid hox
            have HKX := Lib.hid hkx
            have HLX : Hid ((hk own i).length = j + 1) := by show _ = _; rw [hk_length]; exact HLN.out
            clear hox hkx
            by_cases hlt2 : i < j + 1
            case pos =>
              obtain ⟨ci, fi⟩ := HOX.out.at (i := i) (by rw [HLX.out]; exact hlt2)
              have hio : i < own.length := by rw [HLN.out]; exact hlt2
              rw [hk_get own i i hio (by omega), if_neg (by omega)] at ci
              have hbz := HF.out.ok.bound i hio
              have HSA := Lib.hid (hk_same (cs := own) hio)
              obtain ⟨z2, hz2⟩ : ∃ z, z = own.getD i 0 := ⟨_, rfl⟩
              rw [← hz2] at ci hbz HSA
              have HZ2 := Lib.hid hz2
              clear hz2 hio
              have ti2 : (i : Int) < ((j + 1 : Nat) : Int) := by omega
              by_cases hp2 : 0 < z2
              case neg =>
                have td2 : decide (0 < z2) = false := decide_eq_false hp2
                go_wp2_with fail
                go_roundw
                all_goals go_light
                case rel => exact ⟨i + 1, by omega, by go_num, by rw [HSA.out hp2]; exact HOX.out, HKX.out⟩
                case measure => simp [intOf]; omega
              case pos =>
                have td2 : decide (0 < z2) = true := decide_eq_true hp2
                obtain ⟨y2, hy2⟩ : ∃ y2, z2.tdiv 2 = y2 := ⟨_, rfl⟩
                have hyy : y2 = z2 / 2 := by rw [← hy2, Int.tdiv_eq_ediv_of_nonneg (by omega)]
                have hyb : 0 ≤ y2 ∧ y2 ≤ 4294967296 := by omega
                have HSET := Lib.hid (HOX.out.set i (y := y2 + 1) (by simp [Lit.wf, IntKind.min, IntKind.max, IntKind.signed, IntKind.bits]; omega))
                have HNX : Hid ((hk own i).set i (y2 + 1) = hk own (i + 1)) := by
                  show _ = _
                  simp only [hk]
                  rw [← HZ2.out]
                  unfold halfC
                  rw [if_pos hp2, hyy]
                have HG : Hid (w.heap.size ≤ g) := hg
                clear hyy
                go_wp2_with fail
                go_roundw
                all_goals go_light
                case rel =>
                  refine ⟨i + 1, by omega, by go_num, by rw [← HNX.out]; exact HSET.out, HKX.out.setCell (p := ⟨g, i, none⟩) (fun h => ?_) _⟩
                  have h : g < w.heap.size := h
                  have := HG.out
                  omega
                case measure => simp [intOf]; omega
            case neg =>
              obtain rfl : i = j + 1 := by omega
              have HHK : Hid (hk own (j + 1) = own.map halfC) := by show _ = _; rw [← HLN.out]; exact hk_all own
              go_wp2_with fail
              go_roundg m
              case measure => omega
              case rel => exact ⟨own.map halfC, by rw [← HHK.out]; exact HOX.out, by rw [List.length_map]; exact HLN.out, HF.out.half, HRE.out, HKX.out⟩
end Go.Proofs.Ytbbljpkboojjhaa
