/- huff's Encode. -/
import Derived.Test.YtbbljpkboojjhaaHfEncS
import Derived.Test.YtbbljpkboojjhaaHfMay
import Derived.Test.YtbbljpkboojjhaaWriterPut
namespace Go.Proofs.Ytbbljpkboojjhaa
open Go.RowKit

/-- an array of numbers at a block -/
def ArrAt (w : World) (g : Nat) (zs : List Int) : Prop := w.heap[g]? = some (.cells (cells256 zs) 43 (0, 0)) ∧ zs.length = 256

set_option maxRecDepth 100000 in
set_option maxHeartbeats 8000000 in
theorem huffEncode {v u : Value} {zs ds : List Int} {w : World} (h : Ints .i64 w v zs) (hu : Ints .u8 w u ds) (hl : ds.length ≤ 10000000) :
    Calls Try.prog 12 #[v, u] w fun e w' => ∃ x, e = .returned (.tuple #[x, .int .i64 (encS zs ds).2]) ∧ Own .u8 5 w.heap.size w' x (encS zs ds).1 ∧ Keeps w w' := by
  have HV := Lib.hid h
  have HU := Lib.hid hu
  have HMAY := Lib.hid (fun w2 (hk : Keeps w w2) => huffMay (h.keeps hk))
  obtain ⟨_, a, cap, rfl, hcap, hmax, _, hc⟩ := h
  obtain ⟨_, a2, cap2, rfl, hcap2, hmax2, _, hc2⟩ := hu
  have HC := Lib.hid hc
  have HC2 := Lib.hid hc2
  obtain ⟨N, hN⟩ : ∃ N, N = zs.length := ⟨_, rfl⟩
  obtain ⟨M, hM⟩ : ∃ M, M = ds.length := ⟨_, rfl⟩
  rw [← hN] at hcap HC HV HMAY ⊢
  rw [← hM] at hcap2 HC2 HU hl ⊢
  have HN := Lib.hid hN
  have HM := Lib.hid hM
  obtain ⟨R, hR⟩ : ∃ R, R = encS zs ds := ⟨_, rfl⟩
  rw [← hR]
  have HR := Lib.hid hR
  obtain ⟨i256, hi256, hz256⟩ := info256
  have HI := Lib.hid hi256
  have HZ := Lib.hid hz256
  obtain ⟨C0, hC0⟩ : ∃ C, C = cells256 (List.replicate 256 0) := ⟨_, rfl⟩
  rw [← hC0] at HZ
  have HC0 := Lib.hid hC0
  have HS0 : Hid (C0.size = 256) := by show _ = _; rw [hC0, cells256_size, List.length_replicate]
  clear hc hc2 hN hM hR hi256 hz256 hC0
  by_cases hm : HMay zs
  case neg =>
    have hme := HMAY.out w (Fr.refl _ _)
    rw [decide_eq_false hm] at hme
    have HME := Lib.hid hme
    have HRE : Hid (R = ([], 4)) := by show _ = _; rw [HR.out, encS, if_neg (fun h => hm h.1)]
    clear hme hm
    go_enter Try.func12, Try.ntmps12
    go_wp2_with fail
    refine HME.out.mono ?_
    rintro e1 w1 ⟨rfl, hw1⟩
    rw [hw1]
    clear hw1
    go_wp2_with fail
    go_ret2
    go_light
    exact ⟨_, by rw [HRE.out]; rfl, by rw [HRE.out]; exact Own.nil _ _ _ _, Fr.refl _ _⟩
  case pos =>
    have hme := HMAY.out w (Fr.refl _ _)
    rw [decide_eq_true hm] at hme
    have HME := Lib.hid hme
    have hz256 : N ≤ 256 := by rw [HN.out]; exact hm.1.2.1
    have HCO := Lib.hid (huffCodes HV.out (by rw [← HN.out]; exact hz256))
    have HMM := Lib.hid hm
    obtain ⟨cs, hcs⟩ : ∃ cs, cs = codesS zs := ⟨_, rfl⟩
    have hcl : cs.length = 256 := by rw [hcs]; exact cdOut_len zs 11
    obtain ⟨C1, hC1⟩ : ∃ C, C = cells256 cs := ⟨_, rfl⟩
    rw [← hcs, ← hC1] at HCO
    have HS1 : Hid (C1.size = 256) := by show _ = _; rw [hC1, cells256_size, hcl]
    have HA1 : Hid (C1.all (·.oneCell') = true) := by show _ = _; rw [hC1]; exact cells256_one _
    have HC1 := Lib.hid hC1
    have HCS := Lib.hid hcs
    have HCL := Lib.hid hcl
    clear hme hm hcs hcl hC1
    go_enter Try.func12, Try.ntmps12
    go_wp2_with fail
    refine HME.out.mono ?_
    rintro e1 w1 ⟨rfl, hw1⟩
    rw [hw1]
    clear hw1
    go_wp2_with fail
    refine HCO.out.mono ?_
    rintro e2 w2 ⟨rfl, k2⟩
    have K2 := Lib.hid k2
    clear k2
    go_wp2_with (first
      | (refine wpList_allocZ rfl 43 rfl HI.out HZ.out ?_)
      | (refine wpList_store_row rfl 43 (.tmp 6) (.tmp 15) rfl w2.heap.size C1 rfl rfl 43 C0 (heap_alloc_new _ _) (by rw [HS1.out]; exact size256) (by rw [HS0.out, HS1.out]) HA1.out ?_))
    obtain ⟨w3, hw3⟩ : ∃ w3, w3 = (w2.alloc (.cells C0 43)).setRow w2.heap.size C1 := ⟨_, rfl⟩
    rw [← hw3]
    have HA3 : Hid (w3.heap[w2.heap.size]? = some (.cells C1 43 (0, 0))) := by show _ = _; rw [hw3]; exact setRow_heap _ _ _ _ _ _ (heap_alloc_new _ _)
    have k23 : Keeps w2 w3 := by
      have h1 : Keeps w2 (w2.alloc (.cells C0 43)) := (Fr.refl _ _).alloc _
      rw [hw3]
      refine ⟨h1.os, h1.tape, h1.output, by rw [setRow_size]; exact h1.size, fun k hk1 hk2 => ?_⟩
      rw [setRow_other _ _ _ _ (by omega)]
      exact h1.block k hk1 hk2
    have K3 : Hid (Keeps w w3) := K2.out.trans k23 (fun _ _ h => h)
    have hs3 : w3.heap.size = w2.heap.size + 1 := by rw [hw3]; simp
    have hs2 := K2.out.size
    clear k23 hw3
    go_wp2_with fail
    refine (newWriter w3).mono ?_
    rintro e4 w4 ⟨rfl, hw4, k4⟩
    obtain ⟨b, hb⟩ : ∃ b, b = w3.heap.size := ⟨_, rfl⟩
    obtain ⟨Bc, hBc⟩ : ∃ B, B = w2.heap.size := ⟨_, rfl⟩
    rw [← hb] at hw4 ⊢
    rw [← hBc] at HA3 ⊢
    have HW4 := Lib.hid hw4
    have HA4 : Hid (w4.heap[Bc]? = some (.cells C1 43 (0, 0))) := Fr.heap (S := fun _ => False) k4 (fun h => h) HA3.out
    have HK4 : Hid (Keeps w w4) := K3.out.trans k4 (fun _ _ h => h)
    have hb4 := hw4.lt.1
    have HBB : Hid (b = Bc + 1 ∧ w.heap.size ≤ Bc) := ⟨by omega, by omega⟩
    clear hw4 k4 hb hBc hs2 hs3
    go_wp2_with fail
    go_loopw [19] (fun iv wr => ∃ (k : Nat) (g : Option Nat), k ≤ M ∧ iv = .int .i64 k ∧ Wr wr b g (es zs ds k) ∧ wr.heap[Bc]? = some (.cells C1 43 (0, 0)) ∧ Keeps w wr ∧ (∀ i, i < k → okB zs (ds.getD i 0)) ∧ (∀ q, g = some q → w.heap.size ≤ q ∧ q ≠ Bc)) (fun iv _ => M - (intOf iv).toNat)
    case atStart => exact ⟨0, none, by omega, rfl, HW4.out, HA4.out, HK4.out, fun i hi => by omega, fun q h => by cases h⟩
    case round =>
      obtain ⟨k, g, hk, rfl, hwr, har, hkp, hall, hgq⟩ := hrel
      have HW := Lib.hid hwr
      have HAR := Lib.hid har
      have HK := Lib.hid hkp
      have HAL := Lib.hid hall
      have HG := Lib.hid hgq
      clear hwr har hkp hall hgq
      by_cases hlt : k < M
      case neg =>
        obtain rfl : k = M := by omega
        have HOK : Hid (okE zs ds) := ⟨HMM.out, fun i hi => HAL.out i (by rw [HM.out]; exact hi)⟩
        have HRE : Hid (R = (pack (es zs ds k), 0)) := by show _ = _; rw [HR.out, encS, if_pos HOK.out, HM.out]
        have hel := es_len HOK.out k (by rw [HM.out]; exact Nat.le_refl _)
        have hsz := HK.out.size
        go_wp2_with fail
        refine (writerBytes HW.out (by omega)).mono ?_
        rintro e5 w5 ⟨v5, rfl, o5, k5⟩
        have HO5 := Lib.hid o5
        have K5 := Lib.hid k5
        clear o5 k5
        go_wp2_with fail
        go_ret2
        go_light
        exact ⟨_, by rw [HRE.out]; rfl, by rw [HRE.out]; exact HO5.out.mono hsz, HK.out.trans K5.out (fun _ _ h => h)⟩
      case pos =>
        obtain ⟨b2, off2, ha2, ck⟩ := HC2.out k hlt
        subst ha2
        have ck := HK.out.cell (fun h => h) ck
        have hdb := ints_byte HU.out.1 (i := k) (by rw [← HM.out]; exact hlt)
        obtain ⟨dn, hdn⟩ : ∃ dn : Nat, ds.getD k 0 = (dn : Int) := ⟨(ds.getD k 0).toNat, by omega⟩
        have HD := Lib.hid hdn
        rw [hdn] at ck hdb
        have hdn256 : dn < 256 := by omega
        have HBAD : Hid (¬ okB zs (dn : Int) → R = ([], 4)) := fun h => by
          rw [HR.out, encS, if_neg]
          intro h2
          have := h2.2 k (by rw [← HM.out]; exact hlt)
          rw [HD.out] at this
          exact h this
        have ti1 : (k : Int) < (M : Int) := by omega
        clear hdn hdb
        by_cases hdN : dn < N
        case neg =>
          have HRE : Hid (R = ([], 4)) := HBAD.out (fun h => by have := h.1; rw [← HN.out] at this; omega)
          have td : decide ((N : Int) ≤ (dn : Int)) = true := decide_eq_true (by omega)
          have td2 : decide (N ≤ dn) = true := decide_eq_true (by omega)
          go_wp2_with fail
          go_ret2
          go_light
          exact ⟨_, by rw [HRE.out]; rfl, by rw [HRE.out]; exact Own.nil _ _ _ _, HK.out⟩
        case pos =>
          obtain ⟨b3, off3, ha3, cz⟩ := HC.out dn hdN
          subst ha3
          have cz := HK.out.cell (fun h => h) cz
          have hzk := HMM.out.2.1 dn (by rw [← HN.out]; exact hdN)
          obtain ⟨z, hz⟩ : ∃ z, z = zs.getD dn 0 := ⟨_, rfl⟩
          rw [← hz] at cz hzk
          have HZZ := Lib.hid hz
          have td : decide ((N : Int) ≤ (dn : Int)) = false := decide_eq_false (by omega)
          have td2 : decide (N ≤ dn) = false := decide_eq_false (by omega)
          have ti2 : (dn : Int) < (N : Int) := by omega
          clear hz
          by_cases hz0 : z = 0
          case pos =>
            subst hz0
            have HRE : Hid (R = ([], 4)) := HBAD.out (fun h => h.2 (by rw [Int.toNat_natCast]; exact HZZ.out.symm))
            go_wp2_with fail
            go_ret2
            go_light
            exact ⟨_, by rw [HRE.out]; rfl, by rw [HRE.out]; exact Own.nil _ _ _ _, HK.out⟩
          case neg =>
            have tz : (z == 0) = false := by simp; exact hz0
            obtain ⟨n, hn⟩ : ∃ n : Nat, z = (n : Int) := ⟨z.toNat, by omega⟩
            subst hn
            have hn11 : 0 < n ∧ n ≤ 11 := by omega
            obtain ⟨c, hc⟩ : ∃ c, c = cs.getD dn 0 := ⟨_, rfl⟩
            have HCD : Hid (codeB zs (ds.getD k 0) = cb n c n) := by
              show _ = _
              rw [HD.out, codeB, Int.toNat_natCast, ← HZZ.out, hc, HCS.out, Int.toNat_natCast]
            have HOKB : Hid (okB zs (ds.getD k 0)) := by
              rw [HD.out]
              exact ⟨by rw [← HN.out]; omega, by rw [Int.toNat_natCast, ← HZZ.out]; exact hz0⟩
            have HCC : Hid (C1[dn]? = some (.int .i64 c)) := by show _ = _; rw [HC1.out, hc]; exact cells256_get cs (by rw [HCL.out]; exact hdn256)
            have HCB : Hid (0 ≤ c ∧ c ≤ 600000) := by
              show 0 ≤ c ∧ c ≤ 600000
              rw [hc, HCS.out]
              exact codes_bound zs (by rw [← HN.out]; exact hz256) dn
            have hel : (es zs ds k).length ≤ 11 * k := by
              have := es_bound (zs := zs) (ds := ds) HMM.out.2.1 k
              exact this
            have HEL := Lib.hid hel
            clear hc hel
            go_wp2_with fail
            go_loopw [10] (fun iv wx => ∃ (i : Nat) (g2 : Option Nat), i ≤ n ∧ iv = .int .i64 ((i : Int) - 1) ∧ Wr wx b g2 (es zs ds k ++ cb n c (n - i)) ∧ wx.heap[Bc]? = some (.cells C1 43 (0, 0)) ∧ Keeps w wx ∧ (∀ q, g2 = some q → w.heap.size ≤ q ∧ q ≠ Bc)) (fun iv _ => (intOf iv + 1).toNat)
            case atStart => exact ⟨n, g, Nat.le_refl _, rfl, by rw [Nat.sub_self]; simp only [cb, List.append_nil]; exact HW.out, HAR.out, HK.out, HG.out⟩
            case round =>
              obtain ⟨i, g2, hi, rfl, hwx, hax, hkx, hgx⟩ := hrel
              have HWX := Lib.hid hwx
              have HAX := Lib.hid hax
              have HKX := Lib.hid hkx
              have HGX := Lib.hid hgx
              have cc := cell_of_row wr Bc dn _ _ (0, 0) hax
              rw [HCC.out] at cc
              clear hwx hax hkx hgx
              cases i with
              | zero =>
                go_wp2_with fail
                go_roundw
                all_goals go_light
                case rel => exact ⟨k + 1, g2, by omega, by go_num, by simp only [es]; rw [HCD.out]; exact HWX.out, HAX.out, HKX.out, fun j hj => by
                  by_cases e : j = k
                  · subst e; exact HOKB.out
                  · exact HAL.out j (by omega), HGX.out⟩
                case measure => simp [intOf]; omega
              | succ i =>
                have ts : ((i + 1 : Nat) : Int) - 1 = (i : Int) := by omega
                have hi10 : i = 0 ∨ i = 1 ∨ i = 2 ∨ i = 3 ∨ i = 4 ∨ i = 5 ∨ i = 6 ∨ i = 7 ∨ i = 8 ∨ i = 9 ∨ i = 10 := by omega
                have hcb := HCB.out
                have HPUT : Hid (∀ x : Int, x = c / 2 ^ i % 2 → Calls Try.prog 26 #[.pointer (some ⟨b, 0, none⟩), .int .i64 1, .int .i64 x] wr fun e w' =>
                    ∃ g', e = .returned (.int .i64 0) ∧ Wr w' b g' (es zs ds k ++ cb n c (n - i)) ∧ w'.heap[Bc]? = some (.cells C1 43 (0, 0)) ∧ Keeps w w' ∧ (∀ q, g' = some q → w.heap.size ≤ q ∧ q ≠ Bc)) := by
                  intro x hx
                  have hel := HEL.out
                  have hBB := HBB.out
                  have hcl := cb_len n c (n - (i + 1))
                  have hBl : Bc < wr.heap.size := (Array.getElem?_eq_some_iff.1 HAX.out).1
                  have hw2 := HKX.out.size
                  have hx2 : 0 ≤ x ∧ x < 2 := by omega
                  have hpb : ¬ PutBad 1 x := by
                    unfold PutBad
                    rw [show (1 : Int).toNat = 1 from rfl, show (2 : Int) ^ 1 = 2 from by decide]
                    omega
                  have hpr : putRow (es zs ds k ++ cb n c (n - (i + 1))) 1 x = (es zs ds k ++ cb n c (n - i), 0) := by
                    rw [putRow_ok hpb, show (1 : Int).toNat = 1 from rfl]
                    have e1 : n - i = (n - (i + 1)) + 1 := by omega
                    have e2 : n - 1 - (n - (i + 1)) = i := by omega
                    rw [e1]
                    simp only [cb, bitsOf]
                    rw [e2, ← hx, show x % 2 = x by omega, List.append_assoc]
                  refine (writerPutAny HWX.out (by rw [List.length_append]; omega) (by omega) (by omega)).mono ?_
                  rintro e w' ⟨g', rfl, h1, h2, h3⟩
                  rw [hpr] at h1 ⊢
                  have hgx := HGX.out
                  refine ⟨g', rfl, h1, h2.heap (fun h => ?_) HAX.out, HKX.out.trans h2 (fun q hq h => ?_), fun q hq => ?_⟩
                  · rcases h with h | h
                    · omega
                    · exact (hgx _ h).2 rfl
                  · rcases h with h | h
                    · omega
                    · have := (hgx _ h).1; omega
                  · rcases h3 with h3 | ⟨q', h3, h4⟩
                    · rw [h3] at hq; exact hgx q hq
                    · rw [h3] at hq; injection hq with hq; subst hq; exact ⟨by omega, by omega⟩
                rcases hi10 with e | e | e | e | e | e | e | e | e | e | e
                all_goals
                  subst e
                  go_wp2_with fail
                  refine (HPUT.out _ (by rw [and_i64_1 _ (by omega) (by omega)]; first | rfl | simp)).mono ?_
                  rintro e6 w6 ⟨g6, rfl, h61, h62, h63, h64⟩
                  have H61 := Lib.hid h61
                  have H62 := Lib.hid h62
                  have H63 := Lib.hid h63
                  have H64 := Lib.hid h64
                  clear h61 h62 h63 h64
                  go_wp2_with fail
                  go_roundw
                  all_goals go_light
                  case rel => exact ⟨_, g6, by omega, by go_num, H61.out, H62.out, H63.out, H64.out⟩
                  case measure => simp [intOf] <;> omega
end Go.Proofs.Ytbbljpkboojjhaa
