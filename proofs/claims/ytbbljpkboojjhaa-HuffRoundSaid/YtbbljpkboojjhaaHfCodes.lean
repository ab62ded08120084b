/- huff's codes. -/
import Derived.Test.YtbbljpkboojjhaaArr
import Derived.BigQuiet
namespace Go.Proofs.Ytbbljpkboojjhaa
open Go.RowKit

/-- the codes of length k, of the first b bytes -/
def cdIn (zs : List Int) (k : Int) : Nat → List Int × Int → List Int × Int
  | 0, s => s
  | b + 1, s => if zs.getD b 0 = k then ((cdIn zs k b s).1.set b (cdIn zs k b s).2, (cdIn zs k b s).2 + 1) else cdIn zs k b s
/-- the codes of the first lengths -/
def cdOut (zs : List Int) : Nat → List Int × Int
  | 0 => (List.replicate 256 0, 0)
  | k + 1 => cdIn zs ((k : Int) + 1) zs.length ((cdOut zs k).1, (cdOut zs k).2 * 2)
def codesS (zs : List Int) : List Int := (cdOut zs 11).1

theorem cdIn_len (zs : List Int) (k : Int) (s : List Int × Int) : ∀ b, (cdIn zs k b s).1.length = s.1.length
  | 0 => rfl
  | b + 1 => by
    simp only [cdIn]
    split
    · rw [List.length_set]; exact cdIn_len zs k s b
    · exact cdIn_len zs k s b
theorem cdIn_bound (zs : List Int) (k : Int) (s : List Int × Int) : ∀ b, s.2 ≤ (cdIn zs k b s).2 ∧ (cdIn zs k b s).2 ≤ s.2 + (b : Int)
  | 0 => by simp [cdIn]
  | b + 1 => by
    have := cdIn_bound zs k s b
    simp only [cdIn]
    split
    · simp only; omega
    · omega
theorem cdOut_len (zs : List Int) : ∀ k, (cdOut zs k).1.length = 256
  | 0 => List.length_replicate
  | k + 1 => by simp only [cdOut]; rw [cdIn_len]; exact cdOut_len zs k
theorem cdOut_bound (zs : List Int) (hz : zs.length ≤ 256) : ∀ k, 0 ≤ (cdOut zs k).2 ∧ (cdOut zs k).2 ≤ 256 * 2 ^ k - 256
  | 0 => by show (0 : Int) ≤ 0 ∧ (0 : Int) ≤ 256 * 2 ^ 0 - 256; decide
  | k + 1 => by
    have h1 := cdOut_bound zs hz k
    have h2 := cdIn_bound zs ((k : Int) + 1) ((cdOut zs k).1, (cdOut zs k).2 * 2) zs.length
    simp only [cdOut]
    rw [Int.pow_succ]
    simp only at h2
    omega

set_option maxRecDepth 100000 in
set_option maxHeartbeats 8000000 in
theorem huffCodes {v : Value} {zs : List Int} {w : World} (h : Ints .i64 w v zs) (hz : zs.length ≤ 256) :
    Calls Try.prog 24 #[v] w fun e w' => e = .returned (.agg (cells256 (codesS zs))) ∧ Keeps w w' := by
  have HV := Lib.hid h
  obtain ⟨_, a, cap, rfl, hcap, hmax, _, hc⟩ := h
  have HC := Lib.hid hc
  obtain ⟨N, hN⟩ : ∃ N, N = zs.length := ⟨_, rfl⟩
  rw [← hN] at hcap HC HV hz ⊢
  have HN := Lib.hid hN
  obtain ⟨i256, hi256, hz256⟩ := info256
  have HI := Lib.hid hi256
  have HZ := Lib.hid hz256
  obtain ⟨C0, hC0⟩ : ∃ C, C = cells256 (List.replicate 256 0) := ⟨_, rfl⟩
  rw [← hC0] at HZ
  have HC0 := Lib.hid hC0
  clear hc hN hi256 hz256 hC0
  go_enter Try.func24, Try.ntmps24
  go_wp2_with (refine wpList_allocZ rfl 43 rfl HI.out HZ.out ?_)
  have K0 : Hid (Keeps w ((w.alloc (.cells C0 43)).alloc (.cells C0 43))) := ((Fr.refl _ _).alloc _).alloc _
  have H2 : Hid (((w.alloc (.cells C0 43)).alloc (.cells C0 43)).heap[w.heap.size]? = some (.cells C0 43 (0, 0))) := heap_alloc2_old _ _ _
  have H3 : Hid (((w.alloc (.cells C0 43)).alloc (.cells C0 43)).heap[w.heap.size + 1]? = some (.cells (cells256 (cdOut zs 0).1) 43 (0, 0))) := by
    show _ = some (Obj.cells (cells256 (List.replicate 256 0)) _ _)
    rw [← HC0.out]
    exact heap_alloc2_new _ _ _
  go_loopw [5, 4] (fun kv cv wr => ∃ j : Nat, j ≤ 11 ∧ kv = .int .i64 ((j : Int) + 1) ∧ cv = .int .i64 (cdOut zs j).2 ∧ wr.heap[w.heap.size]? = some (.cells C0 43 (0, 0)) ∧ wr.heap[w.heap.size + 1]? = some (.cells (cells256 (cdOut zs j).1) 43 (0, 0)) ∧ Keeps w wr) (fun kv _ _ => 12 - (intOf kv).toNat)
  case atStart => exact ⟨0, by omega, rfl, rfl, H2.out, H3.out, K0.out⟩
  case round =>
    obtain ⟨j, hj, rfl, rfl, h2, h3, hk⟩ := hrel
    have HH2 := Lib.hid h2
    have HH3 := Lib.hid h3
    have HK := Lib.hid hk
    have hcb := cdOut_bound zs (by rw [← HN.out]; exact hz) j
    have hp : (2 : Int) ^ j ≤ 2 ^ 11 := pow2_mono hj
    rw [show (2 : Int) ^ 11 = 2048 from by decide] at hp
    obtain ⟨c, hc⟩ : ∃ c, c = (cdOut zs j).2 := ⟨_, rfl⟩
    rw [← hc] at hcb ⊢
    have HCC := Lib.hid hc
    have hcb2 : 0 ≤ c ∧ c ≤ 600000 := by omega
    clear h2 h3 hk hc hcb hp
    by_cases hlt : j < 11
    case neg =>
      obtain rfl : j = 11 := by omega
      obtain ⟨zz, hzz⟩ : ∃ z, z = (cdOut zs 11).1 := ⟨_, rfl⟩
      have hzl : zz.length = 256 := by rw [hzz]; exact cdOut_len zs 11
      obtain ⟨C1, hC1⟩ : ∃ C, C = cells256 zz := ⟨_, rfl⟩
      have HR : Hid (wr.heap[w.heap.size + 1]? = some (.cells C1 43 (0, 0))) := by show _ = _; rw [hC1, hzz]; exact HH3.out
      have HS1 : Hid (C1.size = 256) := by show _ = _; rw [hC1, cells256_size, hzl]
      have HS0 : Hid (C0.size = 256) := by show _ = _; rw [HC0.out, cells256_size, List.length_replicate]
      have HA1 : Hid (C1.all (·.oneCell') = true) := by show _ = _; rw [hC1]; exact cells256_one _
      have HCE : Hid (C1 = cells256 (codesS zs)) := by show _ = _; rw [hC1, hzz]; rfl
      clear hzz hzl hC1
      go_wp2_with (first
        | (refine wpList_load_row rfl 43 (.tmp 3) rfl (w.heap.size + 1) rfl 43 C1 (0, 0) _ HR.out Try.underlying43 rfl (by rw [HS1.out]; exact size256) ?_)
        | (refine wpList_store_row rfl 43 (.tmp 2) (.tmp 30) rfl w.heap.size C1 rfl rfl 43 C0 HH2.out (by rw [HS1.out]; exact size256) (by rw [HS0.out, HS1.out]) HA1.out ?_))
      refine bodyPost_ret (v := .agg C1) (results_cell_row rfl _ _ w.heap.size 43 C1 (0, 0) _ rfl (setRow_heap _ _ _ _ _ _ HH2.out) Try.underlying43 rfl (by rw [HS1.out]; exact size256)) rfl ?_
      refine ⟨by rw [← HCE.out], ?_⟩
      have hst : wr.heap.size = wr.heap.size := rfl
      refine ⟨HK.out.os, HK.out.tape, HK.out.output, by rw [setRow_size]; exact HK.out.size, fun k hk1 hk2 => ?_⟩
      rw [setRow_other _ _ _ _ (by omega)]
      exact HK.out.block k hk1 hk2
    case pos =>
      have tk : (j : Int) + 1 ≤ 11 := by omega
      go_wp2_with fail
      obtain ⟨o0, ho0⟩ : ∃ o, o = (cdOut zs j).1 := ⟨_, rfl⟩
      have HO0 := Lib.hid ho0
      have hol : o0.length = 256 := by rw [ho0]; exact cdOut_len zs j
      have HOL := Lib.hid hol
      have HH4 : Hid (wr.heap[w.heap.size + 1]? = some (.cells (cells256 o0) 43 (0, 0))) := by show _ = _; rw [ho0]; exact HH3.out
      have HNX : Hid (cdOut zs (j + 1) = cdIn zs ((j : Int) + 1) N (o0, c * 2)) := by
        show _ = _
        simp only [cdOut]
        rw [ho0, HCC.out, HN.out]
      clear ho0 hol
      go_loopw [16, 4] (fun iv cv wx => ∃ i : Nat, i ≤ N ∧ iv = .int .i64 i ∧ cv = .int .i64 (cdIn zs ((j : Int) + 1) i (o0, c * 2)).2 ∧ wx.heap[w.heap.size]? = some (.cells C0 43 (0, 0)) ∧ wx.heap[w.heap.size + 1]? = some (.cells (cells256 (cdIn zs ((j : Int) + 1) i (o0, c * 2)).1) 43 (0, 0)) ∧ Keeps w wx) (fun iv _ _ => N - (intOf iv).toNat)
      case atStart => exact ⟨0, by omega, rfl, by go_num, HH2.out, HH4.out, HK.out⟩
      case round =>
        obtain ⟨i, hi, rfl, rfl, g2, g3, gk⟩ := hrel
        have GH2 := Lib.hid g2
        have GH3 := Lib.hid g3
        have GK := Lib.hid gk
        have hib := cdIn_bound zs ((j : Int) + 1) (o0, c * 2) i
        have hil := cdIn_len zs ((j : Int) + 1) (o0, c * 2) i
        have HST : Hid (cdIn zs ((j : Int) + 1) (i + 1) (o0, c * 2) = if zs.getD i 0 = (j : Int) + 1 then ((cdIn zs ((j : Int) + 1) i (o0, c * 2)).1.set i (cdIn zs ((j : Int) + 1) i (o0, c * 2)).2, (cdIn zs ((j : Int) + 1) i (o0, c * 2)).2 + 1) else cdIn zs ((j : Int) + 1) i (o0, c * 2)) := rfl
        obtain ⟨st, hst⟩ : ∃ st, st = cdIn zs ((j : Int) + 1) i (o0, c * 2) := ⟨_, rfl⟩
        rw [← hst] at hib hil HST GH3 ⊢
        have HSE := Lib.hid hst
        obtain ⟨so, sc⟩ := st
        simp only at hib hil HST GH3 ⊢
        rw [HOL.out] at hil
        have hsc : 0 ≤ sc ∧ sc ≤ 1300000 := by omega
        clear g2 g3 gk hst hib
        by_cases hlt2 : i < N
        case pos =>
          obtain ⟨b, off, ha, ck⟩ := HC.out i hlt2
          subst ha
          have ck := GK.out.cell (fun h => h) ck
          obtain ⟨z, hz2⟩ : ∃ z, z = zs.getD i 0 := ⟨_, rfl⟩
          rw [← hz2] at ck HST
          have ti1 : (i : Int) < (N : Int) := by omega
          have ti2 : (i : Int) < 256 := by omega
          have cc := cell_of_row wr (w.heap.size + 1) i _ _ (0, 0) GH3.out
          rw [cells256_get so (by omega)] at cc
          have cf := frozen_no GH3.out i
          clear hz2
          by_cases hzj : z = (j : Int) + 1
          case pos =>
            have tz : (z == (j : Int) + 1) = true := by simp; exact hzj
            have HNEW : Hid ((wr.setCell ⟨w.heap.size + 1, i, none⟩ (.int .i64 sc)).heap[w.heap.size + 1]? = some (.cells (cells256 (so.set i sc)) 43 (0, 0))) := by
              show _ = _
              rw [← cells256_set]
              exact heap_set GH3.out i _
            have HOLD : Hid ((wr.setCell ⟨w.heap.size + 1, i, none⟩ (.int .i64 sc)).heap[w.heap.size]? = some (.cells C0 43 (0, 0))) :=
              ((Fr.refl (fun k => k = w.heap.size + 1) wr).setAt rfl i _).heap (fun h => by omega) GH2.out
            have HKN : Hid (Keeps w (wr.setCell ⟨w.heap.size + 1, i, none⟩ (.int .i64 sc))) := GK.out.setCell (p := ⟨w.heap.size + 1, i, none⟩) (fun h => by have h : w.heap.size + 1 < w.heap.size := h; omega) _
            rw [if_pos hzj] at HST
            clear hzj
            go_wp2_with fail
            go_roundw
            all_goals go_light
            case rel => exact ⟨i + 1, by omega, by go_num, by rw [HST.out], HOLD.out, by rw [HST.out]; exact HNEW.out, HKN.out⟩
            case measure => simp [intOf]; omega
          case neg =>
            have tz : (z == (j : Int) + 1) = false := by simp; exact hzj
            rw [if_neg hzj] at HST
            go_wp2_with fail
            go_roundw
            all_goals go_light
            case rel => exact ⟨i + 1, by omega, by go_num, by rw [HST.out], GH2.out, by rw [HST.out]; exact GH3.out, GK.out⟩
            case measure => simp [intOf]; omega
        case neg =>
          obtain rfl : i = N := by omega
          rw [← HSE.out] at HNX
          go_wp2_with fail
          go_roundw
          all_goals go_light
          case rel => exact ⟨j + 1, by omega, by go_num, by rw [HNX.out], GH2.out, by rw [HNX.out]; exact GH3.out, GK.out⟩
          case measure => simp [intOf]; omega
end Go.Proofs.Ytbbljpkboojjhaa
