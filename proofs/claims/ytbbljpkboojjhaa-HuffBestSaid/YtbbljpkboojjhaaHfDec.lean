/- huff's Decode. -/
import Derived.Test.YtbbljpkboojjhaaHfDecS
import Derived.Deep.LoopGhost
import Derived.BigQuiet
namespace Go.Proofs.Ytbbljpkboojjhaa
open Go.RowKit Go.Maps

theorem symD_hit {zs cs : List Int} {f : Nat} {x : Int} {bs : List Int} {n c : Int} {b : Nat} (hn : ¬ n = 11) (h : look zs cs 256 (n + 1) (c * 2 + x) = some b) : symD zs cs (f + 1) (x :: bs) n c = some (b, bs) := by
  simp only [symD]
  rw [if_neg hn, h]
theorem symD_miss {zs cs : List Int} {f : Nat} {x : Int} {bs : List Int} {n c : Int} (hn : ¬ n = 11) (h : look zs cs 256 (n + 1) (c * 2 + x) = none) : symD zs cs (f + 1) (x :: bs) n c = symD zs cs f bs (n + 1) (c * 2 + x) := by
  simp only [symD]
  rw [if_neg hn, h]

set_option maxRecDepth 100000 in
set_option maxHeartbeats 8000000 in
theorem huffDecode {v u : Value} {zs ds : List Int} {n : Int} {w : World} (h : Ints .i64 w v zs) (hu : Ints .u8 w u ds) (hl : ds.length ≤ 10000000) (hnw : -9223372036854775808 ≤ n ∧ n ≤ 9223372036854775807) :
    Calls Try.prog 13 #[v, u, .int .i64 n] w fun e w' => ∃ x, e = .returned (.tuple #[x, .int .i64 (decS zs ds n).2]) ∧ Own .u8 5 w.heap.size w' x (decS zs ds n).1 ∧ Keeps w w' := by
  have HV := Lib.hid h
  have HU := Lib.hid hu
  have HMAY := Lib.hid (huffMay h)
  obtain ⟨_, a, cap, rfl, hcap, hmax, _, hc⟩ := h
  obtain ⟨_, a2, cap2, rfl, _, _, _, _⟩ := hu
  have HC := Lib.hid hc
  obtain ⟨N, hN⟩ : ∃ N, N = zs.length := ⟨_, rfl⟩
  obtain ⟨M, hM⟩ : ∃ M, M = ds.length := ⟨_, rfl⟩
  rw [← hN] at hcap HC HV HMAY ⊢
  rw [← hM] at HU hl ⊢
  have HN := Lib.hid hN
  have HM := Lib.hid hM
  obtain ⟨R, hR⟩ : ∃ R, R = decS zs ds n := ⟨_, rfl⟩
  rw [← hR]
  have HR := Lib.hid hR
  clear hc hN hM hR
  by_cases hm : HMay zs
  case neg =>
    have hme := HMAY.out
    rw [decide_eq_false hm] at hme
    have HME := Lib.hid hme
    have HRE : Hid (R = ([], 4)) := by show _ = _; rw [HR.out, decS, if_pos hm]
    clear hme hm
    go_enter Try.func13, Try.ntmps13
    go_wp2_with fail
    refine HME.out.mono ?_
    rintro e1 w1 ⟨rfl, hw1⟩
    rw [hw1]
    clear hw1
    go_wp2_with fail
    go_ret2
    go_light
    exact ⟨_, by rw [HRE.out]; rfl, by rw [HRE.out]; exact Own.nil _ _ _ _, Fr.refl _ _⟩
  case pos =>
    have hme := HMAY.out
    rw [decide_eq_true hm] at hme
    have HME := Lib.hid hme
    have HMM := Lib.hid hm
    have hz256 : N ≤ 256 := by rw [HN.out]; exact hm.1.2.1
    clear hme hm
    by_cases hbad : n < 0 ∨ 65536 < n
    case pos =>
      have HRE : Hid (R = ([], 1)) := by show _ = _; rw [HR.out, decS, if_neg (fun h => h HMM.out), if_pos hbad]
      by_cases h1 : n < 0
      · have td : decide (n < 0) = true := decide_eq_true h1
        go_enter Try.func13, Try.ntmps13
        go_wp2_with fail
        refine HME.out.mono ?_
        rintro e1 w1 ⟨rfl, hw1⟩
        rw [hw1]
        clear hw1
        go_wp2_with fail
        go_ret2
        go_light
        exact ⟨_, by rw [HRE.out]; rfl, by rw [HRE.out]; exact Own.nil _ _ _ _, Fr.refl _ _⟩
      · have h2 : 65536 < n := by omega
        have td : decide (n < 0) = false := decide_eq_false h1
        have td2 : decide (65536 < n) = true := decide_eq_true h2
        go_enter Try.func13, Try.ntmps13
        go_wp2_with fail
        refine HME.out.mono ?_
        rintro e1 w1 ⟨rfl, hw1⟩
        rw [hw1]
        clear hw1
        go_wp2_with fail
        go_ret2
        go_light
        exact ⟨_, by rw [HRE.out]; rfl, by rw [HRE.out]; exact Own.nil _ _ _ _, Fr.refl _ _⟩
    case neg =>
      obtain ⟨K, rfl⟩ : ∃ K : Nat, n = (K : Int) := ⟨n.toNat, by omega⟩
      have hK : K ≤ 65536 := by omega
      obtain ⟨cs, hcs⟩ : ∃ cs, cs = codesS zs := ⟨_, rfl⟩
      have hcl : cs.length = 256 := by rw [hcs]; exact cdOut_len zs 11
      have HRE : Hid (R = decEnd (decN zs cs K (rowOf ds) [])) := by
        show _ = _
        rw [HR.out, decS, if_neg (fun h => h HMM.out), if_neg hbad, ← hcs, Int.toNat_natCast]
      have HCB : Hid (∀ i, 0 ≤ cs.getD i 0 ∧ cs.getD i 0 ≤ 600000) := by
        intro i
        rw [hcs]
        exact codes_bound zs (by rw [← HN.out]; exact hz256) i
      obtain ⟨C1, hC1⟩ : ∃ C, C = cells256 cs := ⟨_, rfl⟩
      have HCO : Hid (∀ w2, Keeps w w2 → Calls Try.prog 24 #[.slice a N cap] w2 fun e w' => e = .returned (.agg C1) ∧ Keeps w2 w') := fun w2 hk => by
        rw [hC1, hcs]
        exact huffCodes (HV.out.keeps hk) (by rw [← HN.out]; exact hz256)
      have HIX : Hid (∀ (w : World) (i : Nat), i < 256 → (Instr.index 43 (.agg C1) (.int .i64 i)).run Try.prog w = .ok (.int .i64 (cs.getD i 0)) w) := fun w i hi => by
        rw [hC1]; exact run_index256 w hcl hi
      have td : decide ((K : Int) < 0) = false := decide_eq_false (by omega)
      have td2 : decide (65536 < (K : Int)) = false := decide_eq_false (by omega)
      have td3 : ¬ (65536 : Int) < (K : Int) := by omega
      have hmm := @run_makeMap Try.prog
      clear hbad hcs hcl hC1
      go_enter Try.func13, Try.ntmps13
      go_wp2_with fail
      refine HME.out.mono ?_
      rintro e1 w1 ⟨rfl, hw1⟩
      rw [hw1]
      clear hw1
      go_wp2_with fail
      refine (HCO.out _ ((Fr.refl _ _).alloc _)).mono ?_
      rintro e2 w2 ⟨rfl, k2⟩
      have HM0 : Hid (MapAt w2 w.heap.size 0 zs cs) := (mapAt_start w zs cs).fr k2 (fun h => h)
      have HK2 : Hid (Keeps w w2) := ((Fr.refl (fun _ => False) w).alloc _).trans k2 (fun _ _ h => h)
      clear k2 hmm
      go_wp2_with fail
      go_loopw [34] (fun iv wr => ∃ k : Nat, k ≤ 256 ∧ iv = .int .i64 k ∧ MapAt wr w.heap.size k zs cs ∧ Keeps w wr) (fun iv _ => 256 - (intOf iv).toNat)
      case atStart => exact ⟨0, by omega, rfl, HM0.out, HK2.out⟩
      case round =>
        obtain ⟨k, hk, rfl, hma, hkp⟩ := hrel
        have HMA := Lib.hid hma
        have HK := Lib.hid hkp
        clear hma hkp
        by_cases hlt : k < 256
        case pos =>
          have hix := fun w => HIX.out w k hlt
          have tk : (k : Int) < 256 := by omega
          have hcb := HCB.out k
          by_cases hkN : k < N
          case neg =>
            have HSK : Hid (MapAt wr w.heap.size (k + 1) zs cs) := HMA.out.skip (fun h => hkN (by rw [HN.out]; exact h.1))
            have td4 : decide ((k : Int) < (N : Int)) = false := decide_eq_false (by omega)
            have td5 : decide (k < N) = false := decide_eq_false hkN
            go_wp2_with fail
            go_roundw
            all_goals go_light
            case rel => exact ⟨k + 1, by omega, by go_num, HSK.out, HK.out⟩
            case measure => simp [intOf]; omega
          case pos =>
            have td4 : decide ((k : Int) < (N : Int)) = true := decide_eq_true (by omega)
            have td5 : decide (k < N) = true := decide_eq_true hkN
            have tkN : (k : Int) < (N : Int) := by omega
            obtain ⟨b, off, ha, ck⟩ := HC.out k hkN
            subst ha
            have ck := HK.out.cell (fun h => h) ck
            have HSKZ : Hid (¬ 0 < zs.getD k 0 → MapAt wr w.heap.size (k + 1) zs cs) := fun h => HMA.out.skip (fun h2 => h h2.2)
            have HWZ : Hid ((Lit.int .i64 (zs.getD k 0)).wf = true) := HV.out.1 _ (getD_in (by rw [← HN.out]; exact hkN))
            have HWC : Hid ((Lit.int .i64 (cs.getD k 0)).wf = true) := by
              show _ = _
              simp [Lit.wf, IntKind.min, IntKind.max, IntKind.signed, IntKind.bits] at hcb ⊢
              omega
            by_cases hz0 : 0 < zs.getD k 0
            case neg =>
              have HSK := Lib.hid (HSKZ.out hz0)
              obtain ⟨z, hz⟩ : ∃ z, z = zs.getD k 0 := ⟨_, rfl⟩
              rw [← hz] at ck hz0
              have td6 : decide (0 < z) = false := decide_eq_false hz0
              clear hz
              go_wp2_with fail
              go_roundw
              all_goals go_light
              case rel => exact ⟨k + 1, by omega, by go_num, HSK.out, HK.out⟩
              case measure => simp [intOf]; omega
            case pos =>
              obtain ⟨z, hz⟩ : ∃ z, z = zs.getD k 0 := ⟨_, rfl⟩
              obtain ⟨c, hc⟩ : ∃ c, c = cs.getD k 0 := ⟨_, rfl⟩
              have HZ := Lib.hid hz
              have HCC := Lib.hid hc
              have HZ0 := Lib.hid hz0
              rw [← hz] at ck hz0
              rw [← hc] at hix hcb
              have td6 : decide (0 < z) = true := decide_eq_true hz0
              have hwr : IntKind.u8.wrap (k : Int) = (k : Int) := wraps_u8 _ (by omega) (by omega)
              have HNk : Hid (k < zs.length) := by show _ < _; rw [← HN.out]; exact hkN
              clear hz hc
              go_wp2_with (at_mapUpdate; go_loud (refine wpList_putKey rfl (.tmp 49) (.tmp 55) (.tmp 57) rfl rfl HMA.out HNk.out hlt HZ0.out (by rw [← HZ.out, ← HCC.out]; rfl) rfl HWZ.out HWC.out ?_); intro w3 hm3 hf3; have HM3 := Lib.hid hm3; have HF3 := Lib.hid hf3; clear hm3 hf3)
              go_roundw
              all_goals go_light
              case rel => exact ⟨k + 1, by omega, by go_num, HM3.out, HK.out.trans HF3.out (fun i hi h => by have h : i = w.heap.size := h; omega)⟩
              case measure => simp [intOf]; omega
        case neg =>
          obtain rfl : k = 256 := by omega
          go_wp2_with fail
          refine (newReader (HU.out.keeps HK.out) (by rw [← HM.out]; omega)).mono ?_
          rintro e4 w4 ⟨rb, rg, rfl, hrb, hrg, hrd, k4⟩
          have HRD : Hid (RdRow w4 rb rg (rowOf ds)) := RdRow.ofRd hrd
          have HMA4 : Hid (MapAt w4 w.heap.size 256 zs cs) := HMA.out.fr (S := fun _ => False) k4 (fun h => h)
          have HK4 : Hid (Keeps w w4) := HK.out.trans k4 (fun _ _ h => h)
          have hml := HMA.out.lt
          have HRB : Hid (w.heap.size < rb ∧ (∀ q, rg = some q → w.heap.size < q)) := ⟨by omega, fun q hq => by have := hrg q hq; omega⟩
          clear hrd k4 hrb hrg hml
          go_wp2_with fail
          go_loopg [12] K (fun m ov wr => ∃ (out bs : List Int), m + out.length = K ∧ Own .u8 5 w.heap.size wr ov out ∧ RdRow wr rb rg bs ∧ MapAt wr w.heap.size 256 zs cs ∧ Keeps w wr ∧ decN zs cs K (rowOf ds) [] = decN zs cs m bs out ∧ (∀ q, ov.ownBlock = some q → q ≠ rb ∧ rg ≠ some q ∧ q ≠ w.heap.size))
          case atStart => exact ⟨[], rowOf ds, by simp, Own.nil _ _ _ _, HRD.out, HMA4.out, HK4.out, rfl, fun q h => by cases h⟩
          case round =>
            obtain ⟨out, bs, hko, hown, hrd, hma, hkp, hdec, hoq⟩ := hrel
            have HO := Lib.hid hown
            have HRD := Lib.hid hrd
            have HMA := Lib.hid hma
            have HK := Lib.hid hkp
            have HDE := Lib.hid hdec
            have HOQ := Lib.hid hoq
            obtain ⟨oa, oc, hov⟩ := hown.form
            obtain ⟨L, hL⟩ : ∃ L, L = out.length := ⟨_, rfl⟩
            rw [← hL] at hov hko
            subst hov
            have HL := Lib.hid hL
            have hsz := hkp.size
            clear hown hrd hma hkp hdec hoq hL
            match gk, hko, HDE with
            | 0, hko, HDE =>
              have HRF : Hid (R = if val (bs.take (bs.length % 8)) ≠ 0 ∨ 8 ≤ bs.length then ([], 3) else (out, 0)) := by
                show _ = _
                rw [HRE.out, HDE.out]
                rfl
              have tl : ¬ (L : Int) < (K : Int) := by omega
              go_wp2_with fail
              refine (rdLeft HRD.out).mono ?_
              rintro e5 w5 ⟨rfl, q5, hw5⟩
              have HRD5 : Hid (RdRow w5 rb rg bs) := by show RdRow _ _ _ _; rw [hw5]; exact HRD.out.keeps ((Fr.refl _ _).drewN _)
              have HO5 : Hid (Own .u8 5 w.heap.size w5 (.slice oa L oc) out) := by show Own _ _ _ _ _ _; rw [hw5]; exact HO.out.keeps ((Fr.refl _ _).drewN _)
              have HK5 : Hid (Keeps w w5) := by show Fr _ _ _; rw [hw5]; exact (Fr.drewN HK.out _)
              obtain ⟨B, hB⟩ : ∃ B, B = bs.length := ⟨_, rfl⟩
              rw [← hB] at HRF ⊢
              have HB := Lib.hid hB
              have tm : (B : Int).tmod 8 = ((B % 8 : Nat) : Int) := by rw [Int.tmod_eq_emod_of_nonneg (by omega)]; omega
              have hmay : mayS ((B % 8 : Nat) : Int) (bs.length : Int) = 0 := by unfold mayS; rw [if_neg (by omega), if_neg (by omega)]
              have HTK := Lib.hid (rdTake (n := ((B % 8 : Nat) : Int)) HRD5.out)
              rw [takeS_ok hmay] at HTK
              simp only [Int.toNat_natCast] at HTK
              clear hw5 hB hmay
              go_wp2_with fail
              refine HTK.out.mono ?_
              rintro e6 w6 ⟨rfl, hr6, f6⟩
              have HRD6 := Lib.hid hr6
              have HO6 : Hid (Own .u8 5 w.heap.size w6 (.slice oa L oc) out) := HO5.out.fr f6 (fun q hq h => (HOQ.out q hq).1 h)
              have HK6 : Hid (Keeps w w6) := HK5.out.trans f6 (fun i hi h => by have h : i = rb := h; have := HRB.out.1; omega)
              obtain ⟨y, hy⟩ : ∃ y, y = val (bs.take (B % 8)) := ⟨_, rfl⟩
              rw [← hy] at HRF ⊢
              clear hr6 f6 hy
              by_cases hy0 : y = 0
              case neg =>
                have HRG : Hid (R = ([], 3)) := by show _ = _; rw [HRF.out, if_pos (.inl hy0)]
                have ty : (y != 0) = true := by simp; exact hy0
                go_wp2_with fail
                go_ret2
                go_light
                exact ⟨_, by rw [HRG.out]; rfl, by rw [HRG.out]; exact Own.nil _ _ _ _, HK6.out⟩
              case pos =>
                subst hy0
                have HLF := Lib.hid (rdLeft HRD6.out)
                have hdl : (bs.drop (B % 8)).length = B - B % 8 := by rw [List.length_drop, ← HB.out]
                rw [hdl] at HLF
                go_wp2_with fail
                refine HLF.out.mono ?_
                rintro e7 w7 ⟨rfl, q7, hw7⟩
                have HO7 : Hid (Own .u8 5 w.heap.size w7 (.slice oa L oc) out) := by show Own _ _ _ _ _ _; rw [hw7]; exact HO6.out.keeps ((Fr.refl _ _).drewN _)
                have HK7 : Hid (Keeps w w7) := by show Fr _ _ _; rw [hw7]; exact (Fr.drewN HK6.out _)
                clear hw7 hdl
                by_cases h8 : 8 ≤ B
                · have HRG : Hid (R = ([], 3)) := by show _ = _; rw [HRF.out, if_pos (.inr h8)]
                  have t8 : decide (0 < ((B - B % 8 : Nat) : Int)) = true := decide_eq_true (by omega)
                  have t8' : decide (0 < B - B % 8) = true := decide_eq_true (by omega)
                  have t8'' : (0 : Int) < ((B - B % 8 : Nat) : Int) := by omega
                  go_wp2_with fail
                  go_ret2
                  go_light
                  exact ⟨_, by rw [HRG.out]; rfl, by rw [HRG.out]; exact Own.nil _ _ _ _, HK7.out⟩
                · have HRG : Hid (R = (out, 0)) := by show _ = _; rw [HRF.out, if_neg (by rintro (h | h); exact h rfl; exact h8 h)]
                  have t8 : decide (0 < ((B - B % 8 : Nat) : Int)) = false := decide_eq_false (by omega)
                  have t8' : decide (0 < B - B % 8) = false := decide_eq_false (by omega)
                  have t8'' : ¬ (0 : Int) < ((B - B % 8 : Nat) : Int) := by omega
                  go_wp2_with fail
                  go_ret2
                  go_light
                  exact ⟨_, by rw [HRG.out]; rfl, by rw [HRG.out]; exact HO7.out, HK7.out⟩
            | m + 1, hko, HDE =>
              have tl : (L : Int) < (K : Int) := by omega
              go_wp2_with fail
              have hOQ := HOQ.out
              have HKB : Hid (wr.heap.size ≠ rb ∧ w.heap.size < wr.heap.size ∧ (∀ q, rg = some q → q < wr.heap.size) ∧ rb < wr.heap.size ∧ (∀ q, (Value.slice oa L oc).ownBlock = some q → q < wr.heap.size)) := by
                have h1 := HRD.out.lt
                have h2 := HMA.out.lt
                exact ⟨by omega, h2, h1.2, h1.1, fun q hq => (HO.out.lt q hq).2⟩
              obtain ⟨kb, hkb⟩ : ∃ kb, kb = wr.heap.size := ⟨_, rfl⟩
              have H0 : Hid ((wr.alloc (.cells #[.int .i64 0, .int .i64 0] 51)).heap[kb]? = some (.cells #[.int .i64 0, .int .i64 0] 51 (0, 0))) := by show _ = _; rw [hkb]; exact heap_alloc_new _ _
              have HO1 := Lib.hid (HO.out.keeps ((Fr.refl _ _).alloc (.cells #[.int .i64 0, .int .i64 0] 51)))
              have HRD1 := Lib.hid (HRD.out.keeps ((Fr.refl _ _).alloc (.cells #[.int .i64 0, .int .i64 0] 51)))
              have HMA1 := Lib.hid (HMA.out.alloc (.cells #[.int .i64 0, .int .i64 0] 51))
              have HK1 : Hid (Keeps w (wr.alloc (.cells #[.int .i64 0, .int .i64 0] 51))) := Fr.alloc HK.out _
              rw [← hkb] at HKB ⊢
              clear hkb hOQ
              go_loopg [12] 12 (fun f ov wx => ∃ (j : Nat) (c : Int) (bs' : List Int), ov = .slice oa L oc ∧ f + j = 12 ∧ j ≤ 11 ∧ wx.heap[kb]? = some (.cells #[.int .i64 j, .int .i64 c] 51 (0, 0)) ∧ Own .u8 5 w.heap.size wx (.slice oa L oc) out ∧ RdRow wx rb rg bs' ∧ MapAt wx w.heap.size 256 zs cs ∧ Keeps w wx ∧ symD zs cs 12 bs 0 0 = symD zs cs f bs' j c ∧ 0 ≤ c ∧ c < 2 ^ j)
              case atStart => exact ⟨0, 0, bs, rfl, by omega, by omega, H0.out, HO1.out, HRD1.out, HMA1.out, HK1.out, rfl, by omega, by decide⟩
              case round =>
                obtain ⟨j, c, bs', rfl, hfj, hj, hkc, hown, hrd, hma, hkp, hsy, hc0, hcj⟩ := hrel
                have HKC := Lib.hid hkc
                have HO := Lib.hid hown
                have HRD := Lib.hid hrd
                have HMA := Lib.hid hma
                have HK := Lib.hid hkp
                obtain ⟨f, rfl⟩ : ∃ f, gk = f + 1 := ⟨gk - 1, by omega⟩
                have HSY := Lib.hid hsy
                have hp11 : (2 : Int) ^ j ≤ 2 ^ 11 := pow2_mono hj
                rw [show (2 : Int) ^ 11 = 2048 from by decide] at hp11
                have hp0 : (2 : Int) ^ (j + 1) = 2 ^ j * 2 := Int.pow_succ ..
                have HC2 : Hid (0 ≤ c ∧ c < 2 ^ j ∧ (2 : Int) ^ (j + 1) = 2 ^ j * 2) := ⟨hc0, hcj, hp0⟩
                have hcb : 0 ≤ c ∧ c ≤ 2048 := by omega
                have hsz := hkp.size
                have hkown : ∀ q, (Value.slice oa L oc).ownBlock = some q → ¬ q = kb := fun q hq h => by
                  have := HKB.out.2.2.2.2 q hq
                  omega
                clear hkc hown hrd hma hkp hsy hc0 hcj hp11 hp0
                have HTK := Lib.hid (rdTake (n := 1) HRD.out)
                cases bs' with
                | nil =>
                  have hmay : mayS 1 (([] : List Int).length : Int) ≠ 0 := by decide
                  rw [takeS_no hmay] at HTK
                  rw [show mayS 1 (([] : List Int).length : Int) = 3 from by decide] at HTK
                  have HRG : Hid (R = ([], 3)) := by
                    show _ = _
                    rw [HRE.out, HDE.out]
                    simp only [decN]
                    rw [HSY.out]
                    rfl
                  go_wp2_with fail
                  refine HTK.out.mono ?_
                  rintro e5 w5 ⟨rfl, _, f5⟩
                  have HK5 : Hid (Keeps w w5) := HK.out.trans f5 (fun i hi h => by have h : i = rb := h; have := HRB.out.1; omega)
                  clear f5
                  go_wp2_with fail
                  go_ret2
                  go_light
                  exact ⟨_, by rw [HRG.out]; rfl, by rw [HRG.out]; exact Own.nil _ _ _ _, HK5.out⟩
                | cons x t =>
                  have hxb := HRD.out.bin x (by simp)
                  have hmay : mayS 1 ((x :: t).length : Int) = 0 := by
                    unfold mayS
                    rw [if_neg (by omega), if_neg (by simp only [List.length_cons]; omega)]
                  rw [takeS_ok hmay] at HTK
                  have hv : val ((x :: t).take (1 : Int).toNat) = x := by
                    rw [show (1 : Int).toNat = 1 from rfl]
                    simp [val]
                  have hdr : (x :: t).drop (1 : Int).toNat = t := rfl
                  simp only [hv, hdr] at HTK
                  have hx01 : 0 ≤ x ∧ x ≤ 1 := by omega
                  have hfk : ¬ kb = rb := HKB.out.1
                  have c0 := cell_of_row wr kb 0 _ _ (0, 0) HKC.out
                  have c1 := cell_of_row wr kb 1 _ _ (0, 0) HKC.out
                  simp at c0 c1
                  clear hmay hv hdr hxb
                  go_wp2_with fail
                  refine HTK.out.mono ?_
                  rintro e5 w5 ⟨rfl, hr5, f5⟩
                  have HK5 : Hid (Keeps w w5) := HK.out.trans f5 (fun i hi h => by have h : i = rb := h; have := HRB.out.1; omega)
                  have HR5 := Lib.hid hr5
                  have HO5 := Lib.hid (HO.out.fr f5 (fun q hq h => (HOQ.out q hq).1 h))
                  have HM5 := Lib.hid (HMA.out.fr f5 (fun h => by have h : w.heap.size = rb := h; have := HRB.out.1; omega))
                  have HKC5 := Lib.hid (f5.heap (fun h => hfk h) HKC.out)
                  have c0 := f5.cell (p := ⟨kb, 0, none⟩) hfk c0
                  have c1 := f5.cell (p := ⟨kb, 1, none⟩) hfk c1
                  have z0 := frozen_no HKC5.out 0
                  have z1 := frozen_no HKC5.out 1
                  have hs5 := f5.size
                  clear hr5 f5
                  by_cases hj11 : j = 11
                  · subst hj11
                    have HRG : Hid (R = ([], 3)) := by
                      show _ = _
                      rw [HRE.out, HDE.out]
                      simp only [decN]
                      rw [HSY.out]
                      rfl
                    go_wp2_with fail
                    go_ret2
                    go_light
                    exact ⟨_, by rw [HRG.out]; rfl, by rw [HRG.out]; exact Own.nil _ _ _ _, HK5.out⟩
                  · have tj : ((j : Int) == 11) = false := by simp; omega
                    have tj2 : ¬ (j : Int) = 11 := by omega
                    have hor : bits .or .i64 (c * 2) x = c * 2 + x := by
                      rw [bits_or_comm, or_i64 1 x (c * 2) (by omega) (by rw [show (2 : Int) ^ 1 = 2 from by decide]; omega) (by omega) (by omega) (by rw [show (2 : Int) ^ 1 = 2 from by decide]; omega) (by omega), Int.add_comm]
                    have hwf1 : (Lit.int .i64 ((j : Int) + 1)).wf = true := by simp [Lit.wf, IntKind.min, IntKind.max, IntKind.signed, IntKind.bits]; omega
                    have hwf2 : (Lit.int .i64 (c * 2 + x)).wf = true := by simp [Lit.wf, IntKind.min, IntKind.max, IntKind.signed, IntKind.bits]; omega
                    have HW1 := Lib.hid hwf1
                    have HW2 := Lib.hid hwf2
                    have hmk : ¬ w.heap.size = kb := by have := HKB.out.2.1; omega
                    have HM6 : Hid (MapAt ((w5.setCell ⟨kb, 0, none⟩ (.int .i64 ((j : Int) + 1))).setCell ⟨kb, 1, none⟩ (.int .i64 (c * 2 + x))) w.heap.size 256 zs cs) := (HM5.out.setCell hmk _).setCell hmk _
                    have F6 : Hid (Fr (fun i => i = kb) w5 ((w5.setCell ⟨kb, 0, none⟩ (.int .i64 ((j : Int) + 1))).setCell ⟨kb, 1, none⟩ (.int .i64 (c * 2 + x)))) := ((Fr.refl (fun i => i = kb) w5).setAt rfl 0 _).setAt rfl 1 _
                    have hsw : w.heap.size ≤ w5.heap.size := HK5.out.size
                    cases hlk : look zs cs 256 ((j : Int) + 1) (c * 2 + x) with
                    | none =>
                      have HST := Lib.hid (symD_miss (f := f) (bs := t) tj2 hlk)
                      have HLK := Lib.hid hlk
                      clear hlk hwf1 hwf2
                      go_wp2_with (at_lookup; go_loud (refine wpList_look rfl (.tmp 88) (.tmp 89) rfl rfl HM6.out rfl HW1.out HW2.out HLK.out ?_))
                      go_roundg f
                      case measure => omega
                      case rel =>
                        have hkbw : w.heap.size < kb := HKB.out.2.1
                        refine ⟨j + 1, c * 2 + x, t, rfl, by omega, by omega, ?_, HO5.out.fr F6.out (fun q hq h => ?_), HR5.out.fr F6.out (fun h => hfk h.symm) (fun q hq h => ?_), HM6.out, HK5.out.trans F6.out (fun i hi h => by have h : i = kb := h; omega), ?_, by omega, ?_⟩
                        · have h1 := heap_set (heap_set HKC5.out 0 (.int .i64 ((j : Int) + 1))) 1 (.int .i64 (c * 2 + x))
                          simpa using h1
                        · have h : q = kb := h
                          subst h
                          exact hkown q hq rfl
                        · have h : q = kb := h
                          have := HKB.out.2.2.1 q hq
                          omega
                        · rw [HSY.out, HST.out]; simp
                        · have := HC2.out; omega
                    | some bb =>
                      have hbl := look_lt zs cs 256 _ _ _ hlk
                      have HST := Lib.hid (symD_hit (f := f) (bs := t) tj2 hlk)
                      have HLK := Lib.hid hlk
                      have hbb : bb < 256 := hbl.1
                      have HDN : Hid (decN zs cs (m + 1) bs out = decN zs cs m t (out ++ [(bb : Int)])) := by
                        show _ = _
                        simp only [decN]
                        rw [HSY.out, HST.out]
                      have HO6 : Hid (Own .u8 5 w.heap.size ((w5.setCell ⟨kb, 0, none⟩ (.int .i64 ((j : Int) + 1))).setCell ⟨kb, 1, none⟩ (.int .i64 (c * 2 + x))) (.slice oa L oc) out) := HO5.out.fr F6.out (fun q hq h => hkown q hq h)
                      have hwb : Hid ((Lit.int .u8 (bb : Int)).wf = true) := by show _ = _; simp [Lit.wf, IntKind.min, IntKind.max, IntKind.signed, IntKind.bits]; omega
                      have HSZ6 : Hid (((w5.setCell ⟨kb, 0, none⟩ (.int .i64 ((j : Int) + 1))).setCell ⟨kb, 1, none⟩ (.int .i64 (c * 2 + x))).heap.size = w5.heap.size) := by show _ = _; simp
                      clear hlk hwf1 hwf2 hbl
                      go_wp2_with (first
                        | (at_lookup; go_loud (refine wpList_look rfl (.tmp 88) (.tmp 89) rfl rfl HM6.out rfl HW1.out HW2.out HLK.out ?_))
                        | (at_builtin; go_loud (refine wpList_int rfl (.tmp 94) (.tmp 96) rfl elemB (.slice oa L oc) rfl (by show Value.slice _ _ _ = Value.slice _ _ _; simp) HO6.out hwb.out (by rw [← HL.out]; omega) (by rw [HSZ6.out]; exact hsw) ?_); intro v7 w7 hown7 hfr7 hat7; have H7 := Lib.hid hown7; have F7 := Lib.hid hfr7; have A7 := Lib.hid hat7; clear hown7 hfr7 hat7))
                      go_roundg m
                      case measure => omega
                      case rel =>
                        have hkbw : w.heap.size < kb := HKB.out.2.1
                        have hrl := HRD.out.lt
                        have hF : ∀ q, (Value.slice oa L oc).ownBlock = some q → q ≠ kb := fun q hq h => hkown q hq h
                        have hat : ∀ q, v7.ownBlock = some q → (Value.slice oa L oc).ownBlock = some q ∨ w5.heap.size < q := fun q hq => by
                          rcases A7.out with h | h
                          · exact .inl (h ▸ hq)
                          · rw [h] at hq
                            injection hq with hq
                            rw [HSZ6.out] at hq
                            exact .inr (by omega)
                        have HR6 := HR5.out.fr F6.out (fun h => hfk h.symm) (fun q hq h => by have h : q = kb := h; have := HKB.out.2.2.1 q hq; omega)
                        refine ⟨out ++ [(bb : Int)], t, by rw [List.length_append, ← HL.out]; simp only [List.length_singleton]; omega, H7.out, HR6.fr F7.out (fun h => (HOQ.out rb h).1 rfl) (fun q hq h => (HOQ.out q h).2.1 hq), HM6.out.fr F7.out (fun h => (HOQ.out _ h).2.2 rfl), (HK5.out.trans F6.out (fun i hi h => by have h : i = kb := h; omega)).trans F7.out (fun i hi h => by have := (HO5.out.lt i h).1; omega), by rw [HDE.out, HDN.out], fun q hq => ?_⟩
                        rcases hat q hq with h | h
                        · exact HOQ.out q h
                        · have h1 := HR5.out.lt
                          have h2 := HM5.out.lt
                          exact ⟨by omega, fun e => by have := h1.2 q e; omega, by omega⟩
end Go.Proofs.Ytbbljpkboojjhaa
