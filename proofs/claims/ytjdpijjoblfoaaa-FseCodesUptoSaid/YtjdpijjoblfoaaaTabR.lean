/- The reference's table of a share. -/
import Derived.Test.YtjdpijjoblfoaaaCounts
import Derived.Test.YtjdpijjoblfoaaaMade
import Derived.Laws.OwnMore
namespace Go.Proofs.Ytjdpijjoblfoaaa
open Go.RowKit

theorem infoPlace : (Try.prog.info? 64).map (fun i => (i.zero.map Value.cells, i.size, i.bytes)) = some (some #[.int .i64 0, .int .i64 0], 2, 16) := by kernel_rfl
theorem runPlaces (n : Nat) (hn : n ≤ 1000000) (w : World) :
    (Instr.makeSlice 61 (.int .i64 (n : Int)) (.int .i64 (n : Int))).run Try.prog w = .ok (.slice (some ⟨w.heap.size, 0, none⟩) n n) (w.alloc (.cells (madeCells #[.int .i64 0, .int .i64 0] (n * 2)) 64)) := by
  obtain ⟨i, hi, hzz⟩ := Option.map_eq_some_iff.1 infoPlace
  simp only [Prod.mk.injEq] at hzz
  obtain ⟨hz, hs, hb⟩ := hzz
  obtain ⟨z, hz1, hz2⟩ := Option.map_eq_some_iff.1 hz
  have hr := run_make (P := Try.prog) w 61 64 i z Try.underlying61 hi hz1 .i64 .i64 n n (by omega) (Int.le_refl _) (by rw [hb]; omega) (by omega)
  simp only [Int.toNat_natCast, hs, hz2] at hr
  exact hr

/-- the row of places, while symbols are laid -/
def Pr1 (w : World) (b S : Nat) (P : List Int) : Prop := ∃ C : Array Value, w.heap[b]? = some (.cells C 64 (0, 0)) ∧ C.size = S * 2 ∧ P.length = S ∧ ∀ p, p < S → C[p * 2]? = some (.int .i64 (P.getD p 0))
theorem Pr1.set {w : World} {b S : Nat} {P : List Int} (h : Pr1 w b S P) {q : Nat} (hq : q < S) (s : Int) : Pr1 (w.setCell ⟨b, q * 2, none⟩ (.int .i64 s)) b S (P.set q s) := by
  obtain ⟨C, h1, h2, h4, h6⟩ := h
  refine ⟨C.setIfInBounds (q * 2) (.int .i64 s), heap_set h1 _ _, by simpa using h2, by simpa using h4, fun p hp => ?_⟩
  by_cases e : p = q
  · subst e
    have : p * 2 < C.size := by omega
    simp [this, List.getD_eq_getElem?_getD, h4, hp]
  · rw [Array.getElem?_setIfInBounds_ne (by omega), h6 p hp, List.getD_eq_getElem?_getD, List.getD_eq_getElem?_getD, List.getElem?_set_ne (fun h => e h.symm)]
theorem Pr1.at {w : World} {b S : Nat} {P : List Int} (h : Pr1 w b S P) {q : Nat} (hq : q < S) : w.cell? ⟨b, q * 2, none⟩ = some (.int .i64 (P.getD q 0)) ∧ (∀ i, w.frozen? ⟨b, i, none⟩ = false) := by
  obtain ⟨C, h1, h2, h4, h6⟩ := h
  exact ⟨by rw [cell_of_row _ _ _ _ _ _ h1]; exact h6 q hq, fun i => frozen_no h1 i⟩
/-- the row of places, p of whose numbers are laid -/
def Pr2 (w : World) (b S : Nat) (zs P : List Int) (n : Nat) : Prop := ∃ C : Array Value, w.heap[b]? = some (.cells C 64 (0, 0)) ∧ C.size = S * 2 ∧ (∀ p, p < S → C[p * 2]? = some (.int .i64 (P.getD p 0))) ∧ ∀ p, p < n → C[p * 2 + 1]? = some (.int .i64 (xP zs P p))
theorem Pr2.next {w : World} {b S : Nat} {zs P : List Int} {n : Nat} (h : Pr2 w b S zs P n) (hn : n < S) : Pr2 (w.setCell ⟨b, n * 2 + 1, none⟩ (.int .i64 (xP zs P n))) b S zs P (n + 1) := by
  obtain ⟨C, h1, h2, h3, h4⟩ := h
  refine ⟨C.setIfInBounds (n * 2 + 1) (.int .i64 (xP zs P n)), heap_set h1 _ _, by simpa using h2, fun p hp => ?_, fun p hp => ?_⟩
  · rw [Array.getElem?_setIfInBounds_ne (by omega)]; exact h3 p hp
  · by_cases e : p = n
    · subst e
      have : p * 2 + 1 < C.size := by omega
      simp [this]
    · rw [Array.getElem?_setIfInBounds_ne (by omega)]; exact h4 p (by omega)
theorem Pr2.fr {R : Nat → Prop} {w w' : World} {b S : Nat} {zs P : List Int} {n : Nat} (h : Pr2 w b S zs P n) (f : Fr R w w') (hb : ¬ R b) : Pr2 w' b S zs P n := by
  obtain ⟨C, h1, h2⟩ := h
  exact ⟨C, f.heap hb h1, h2⟩
theorem Pr2.at {w : World} {b S : Nat} {zs P : List Int} {n : Nat} (h : Pr2 w b S zs P n) {q : Nat} (hq : q < S) : w.cell? ⟨b, q * 2, none⟩ = some (.int .i64 (P.getD q 0)) ∧ (∀ i, w.frozen? ⟨b, i, none⟩ = false) ∧ (∃ u, w.cell? ⟨b, q * 2 + 1, none⟩ = some u) ∧
    (q < n → w.cell? ⟨b, q * 2 + 1, none⟩ = some (.int .i64 (xP zs P q))) := by
  obtain ⟨C, h1, h2, h3, h4⟩ := h
  refine ⟨by rw [cell_of_row _ _ _ _ _ _ h1]; exact h3 q hq, fun i => frozen_no h1 i, ⟨C[q * 2 + 1]'(by omega), by rw [cell_of_row _ _ _ _ _ _ h1, Array.getElem?_eq_getElem]⟩, fun h => by rw [cell_of_row _ _ _ _ _ _ h1]; exact h4 q h⟩
theorem posP_step (P : List Int) (s : Int) (q : Nat) : (posP P s (q + 1)).length = (posP P s q).length + (if P.getD q 0 = s then 1 else 0) := by
  simp only [posP]
  split
  · simp
  · simp

set_option maxRecDepth 100000 in
set_option maxHeartbeats 4000000 in
theorem refTable {v : Value} {zs : List Int} {log : Int} {w : World} (h : Ints .i64 w v zs) (hm : ShMay zs log) :
    Calls Try.prog 34 #[v, .int .i64 log] w fun e w' => ∃ b, e = .returned (.slice (some ⟨b, 0, none⟩) (2 ^ log.toNat) (2 ^ log.toNat)) ∧ w.heap.size ≤ b ∧ b < w'.heap.size ∧ Pr2 w' b (2 ^ log.toNat) zs (symP (2 ^ log.toNat) zs) (2 ^ log.toNat) ∧ Keeps w w' := by
  have HV := Lib.hid h
  obtain ⟨va, vc, rfl⟩ := h.form
  obtain ⟨K, hK⟩ : ∃ K, K = zs.length := ⟨_, rfl⟩
  have hK64 : K ≤ 64 := by have := hm.2.2.2.1; omega
  have hK0 : 0 < K := by have := hm.2.2.1; omega
  rw [← hK] at HV ⊢
  have HK := Lib.hid hK
  obtain ⟨lg, rfl⟩ : ∃ lg : Nat, log = (lg : Int) := ⟨log.toNat, by have := hm.1; omega⟩
  have hlg : lg ≤ 9 := by have := hm.2.1; omega
  have HM := Lib.hid hm
  obtain ⟨S, hS⟩ : ∃ S, S = 2 ^ ((lg : Nat) : Int).toNat := ⟨_, rfl⟩
  have hS5 : 32 ≤ S ∧ S ≤ 512 := by rw [hS]; exact pow_logN ⟨hm.1, hm.2.1⟩
  rw [← hS]
  have hSi : (2 : Int) ^ lg = (S : Int) := by rw [hS, Int.toNat_natCast]; simp
  have HS := Lib.hid hS
  have HNN : Hid (∀ z ∈ zs, 0 ≤ z) := hm.2.2.2.2.2.1
  have hmk := runPlaces S (by omega)
  obtain ⟨C, hC⟩ : ∃ C, C = madeCells #[.int .i64 0, .int .i64 0] (S * 2) := ⟨_, rfl⟩
  rw [← hC] at hmk
  have HP0 : Hid (∀ w : World, Pr1 (w.alloc (.cells C 64)) w.heap.size S (spreadS S zs 0).1) := fun w => ⟨C, heap_alloc_new w _, by rw [hC]; simp [madeCells], by simp [spreadS], fun p hp => by
    rw [hC]
    have h2 : p * 2 < S * 2 := by omega
    have h3 : (spreadS S zs 0).1.getD p 0 = 0 := by simp [spreadS, List.getD_eq_getElem?_getD, hp]
    rw [h3]
    simp [madeCells, h2]⟩
  clear hS h hm hK hC
  go_enter Try.func34, Try.ntmps34
  go_wp2_with fail
  clear hSi hmk
  have HP1 : Hid (Pr1 (w.alloc (.cells C 64)) w.heap.size S (spreadS S zs 0).1) := HP0.out w
  have HS0 : Hid (0 < S) := by show 0 < S; omega
  go_loopw [8, 7] (fun iv av wr => ∃ k : Nat, k ≤ K ∧ iv = .int .i64 k ∧ av = .int .i64 ((spreadS S zs k).2 : Nat) ∧ Pr1 wr w.heap.size S (spreadS S zs k).1 ∧ Fr (fun i => i = w.heap.size) (w.alloc (.cells C 64)) wr) (fun iv _ _ => K - (intOf iv).toNat)
  case atStart => exact ⟨0, by omega, rfl, rfl, HP1.out, Fr.refl _ _⟩
  case round =>
    obtain ⟨k, hk, rfl, rfl, hp, hfr⟩ := hrel
    have HP := Lib.hid hp
    have FR := Lib.hid hfr
    by_cases hlt : k < K
    case pos =>
      have HVR : ∀ wx, Fr (fun i => i = w.heap.size) (w.alloc (.cells C 64)) wx → ∃ b off, va = some ⟨b, off, none⟩ ∧ wx.cell? ⟨b, off + k, none⟩ = some (.int .i64 (zs.getD k 0)) := fun wx hfr => by
        have h1 := (HV.out.keeps ((Fr.refl _ _).alloc (.cells C 64))).fr hfr (fun x n c e h0 h => by cases e; have h : x.block = w.heap.size := h; have := HV.out.blk h0 x rfl; omega)
        obtain ⟨_, a', c', e, _, _, _, hcc⟩ := h1
        injection e with e1
        subst e1
        exact hcc k (by rw [← HK.out]; exact hlt)
      obtain ⟨b, off, hva, ck⟩ := HVR wr hfr
      subst hva
      obtain ⟨zk, hzk⟩ : ∃ zk : Nat, zs.getD k 0 = (zk : Int) := ⟨(zs.getD k 0).toNat, by have := HNN.out _ (getD_mem (zs := zs) (k := k) (by rw [← HK.out]; exact hlt)); omega⟩
      have HCK : Hid (∀ wx, Fr (fun i => i = w.heap.size) (w.alloc (.cells C 64)) wx → wx.cell? ⟨b, off + k, none⟩ = some (.int .i64 (zk : Int))) := fun wx hfr => by
        obtain ⟨b', off', e, h⟩ := HVR wx hfr
        cases e
        rw [hzk] at h
        exact h
      have hzk5 : zk ≤ 512 := by
        have h1 := sum_ge HNN.out (i := k)
        have h2 := share_size HM.out
        rw [← HS.out] at h2
        omega
      have HNX : Hid (spreadS S zs (k + 1) = fillS S k ((spreadS S zs k).1, (spreadS S zs k).2) zk) := by
        show _ = _
        simp only [spreadS]
        rw [hzk, Int.toNat_natCast]
      obtain ⟨P0, hP0⟩ : ∃ x, x = (spreadS S zs k).1 := ⟨_, rfl⟩
      obtain ⟨q0, hq0⟩ : ∃ x, x = (spreadS S zs k).2 := ⟨_, rfl⟩
      have hq0S : q0 < S := by rw [hq0]; exact spreadS_lt HS0.out zs k
      rw [← hP0] at HP HNX
      rw [← hq0] at HNX ⊢
      clear hp hfr hzk hP0 hq0 ck HVR
      have HQ0 := Lib.hid hq0S
      have ti1 : (0 : Int) ≤ (k : Int) := by omega
      have ti2 : (k : Int) < (K : Int) := by omega
      go_wp2_with fail
      go_loopw [9, 7] (fun jv av wx => ∃ j : Nat, j ≤ zk ∧ jv = .int .i64 j ∧ av = .int .i64 ((fillS S k (P0, q0) j).2 : Nat) ∧ Pr1 wx w.heap.size S (fillS S k (P0, q0) j).1 ∧ Fr (fun i => i = w.heap.size) (w.alloc (.cells C 64)) wx) (fun jv _ _ => zk - (intOf jv).toNat)
      case atStart => exact ⟨0, by omega, rfl, rfl, HP.out, FR.out⟩
      case round =>
        obtain ⟨j, hj, rfl, rfl, hp2, hfr2⟩ := hrel
        have HP2 := Lib.hid hp2
        have FR2 := Lib.hid hfr2
        have ck := HCK.out _ hfr2
        have hq := fillS_lt HS0.out (k : Int) (P := P0) HQ0.out j
        have HNX2 : Hid (fillS S k (P0, q0) (j + 1) = ((fillS S k (P0, q0) j).1.set (fillS S k (P0, q0) j).2 k, stepS S (fillS S k (P0, q0) j).2)) := rfl
        obtain ⟨Q, hQ⟩ : ∃ x, x = (fillS S k (P0, q0) j).1 := ⟨_, rfl⟩
        obtain ⟨q, hqe⟩ : ∃ x, x = (fillS S k (P0, q0) j).2 := ⟨_, rfl⟩
        have HQE : Hid (fillS S k (P0, q0) j = (Q, q)) := by show _ = _; rw [hQ, hqe]
        rw [← hQ] at HP2 HNX2
        rw [← hqe] at hq HNX2 ⊢
        obtain ⟨cq, fq⟩ := HP2.out.at hq
        have hqi : (q : Int) < 512 := by omega
        have hqn : (q : Int) < (S : Int) := by omega
        clear hp2 hfr2 hQ hqe
        by_cases hlt2 : j < zk
        case pos =>
          have hps := HP2.out.set hq (k : Int)
          have HPS := Lib.hid hps
          clear hps
          go_wp2_with fail
          go_roundw
          all_goals go_light
          case rel =>
            refine ⟨j + 1, by omega, by go_num, by rw [HNX2.out]; simp [stepS], ?_, ?_⟩
            · rw [HNX2.out]
              exact HPS.out
            · exact FR2.out.setAt (b := w.heap.size) rfl (q * 2) (.int .i64 (k : Int))
          case measure => simp [intOf]; omega
        case neg =>
          obtain rfl : j = zk := by omega
          go_wp2_with fail
          go_roundw
          all_goals go_light
          case rel => exact ⟨k + 1, by omega, by go_num, by rw [HNX.out, HQE.out], by rw [HNX.out, HQE.out]; exact HP2.out, FR2.out⟩
          case measure => simp [intOf]; omega
    case neg =>
      obtain rfl : k = K := by omega
      obtain ⟨P, hP⟩ : ∃ x, x = symP S zs := ⟨_, rfl⟩
      have HPE : Hid ((spreadS S zs k).1 = P) := by show _ = _; rw [hP, HK.out]; rfl
      rw [HPE.out] at HP
      have HPP := Lib.hid hP
      have HVR : Hid (∀ wx, Fr (fun i => i = w.heap.size) (w.alloc (.cells C 64)) wx → ∃ b off, va = some ⟨b, off, none⟩ ∧ ∀ j, j < k → wx.cell? ⟨b, off + j, none⟩ = some (.int .i64 (zs.getD j 0))) := fun wx hfr => by
        have h1 := (HV.out.keeps ((Fr.refl _ _).alloc (.cells C 64))).fr hfr (fun x n c e h0 h => by cases e; have h : x.block = w.heap.size := h; have := HV.out.blk h0 x rfl; omega)
        obtain ⟨_, a', c', e, _, _, _, hcc⟩ := h1
        injection e with e1
        subst e1
        obtain ⟨b, off, e2, _⟩ := hcc 0 (by rw [← HK.out]; exact hK0)
        refine ⟨b, off, e2, fun j hj => ?_⟩
        obtain ⟨b', off', e3, h⟩ := hcc j (by rw [← HK.out]; exact hj)
        rw [e2] at e3
        cases e3
        exact h
      have HPH : Hid (Pr2 wr w.heap.size S zs P 0) := by
        obtain ⟨C3, h1, h2, h4, h6⟩ := HP.out
        exact ⟨C3, h1, h2, h6, fun p h => by omega⟩
      have HSB := Lib.hid (fun (p : Nat) (h : p < 2 ^ ((lg : Nat) : Int).toNat) => xP_bound (zs := zs) HM.out h)
      rw [← HS.out, ← HPP.out] at HSB
      have hszT : Hid (w.heap.size < wr.heap.size) := by
        have h := hfr.size
        rw [World.size_alloc] at h
        show _ < _
        omega
      clear hp hfr hP
      generalize ((spreadS S zs k).2 : Int) = atv at *
      go_wp2_with fail
      go_loopw [10] (fun iv wx => ∃ p : Nat, p ≤ S ∧ iv = .int .i64 p ∧ Pr2 wx w.heap.size S zs P p ∧ Fr (fun i => i = w.heap.size) (w.alloc (.cells C 64)) wx) (fun iv _ => S - (intOf iv).toNat)
      case atStart => exact ⟨0, by omega, rfl, HPH.out, FR.out⟩
      case round =>
        obtain ⟨p, hp, rfl, hph, hfr⟩ := hrel
        have HPH2 := Lib.hid hph
        have FR2 := Lib.hid hfr
        by_cases hlt : p < S
        case neg =>
          obtain rfl : p = S := by omega
          clear hph hfr
          go_wp2_with fail
          go_ret
          go_light
          refine ⟨w.heap.size, rfl, Nat.le_refl _, ?_, by rw [← HPP.out]; exact HPH2.out, ((Fr.refl _ w).alloc _).trans FR2.out (fun i hi h => by have h : i = w.heap.size := h; omega)⟩
          have h := FR2.out.size
          rw [World.size_alloc] at h
          omega
        case pos =>
          obtain ⟨j, hjk, hj, hx1, hx2, hx3⟩ := HSB.out p hlt
          rw [← HK.out] at hjk
          obtain ⟨b, off, hva, hcv⟩ := HVR.out _ hfr
          subst hva
          have cz := hcv j hjk
          obtain ⟨c0, fp, ⟨u, cu⟩, _⟩ := hph.at hlt
          have HCQ : Hid (∀ q, q < S → wr.cell? ⟨w.heap.size, q * 2, none⟩ = some (.int .i64 (P.getD q 0))) := fun q hq => (HPH2.out.at hq).1
          rw [hj] at c0
          have hzz := sum_ge HNN.out (i := j)
          have hzs := share_size HM.out
          rw [← HS.out] at hzs
          have hz0 := HNN.out _ (getD_mem (zs := zs) (k := j) (by rw [← HK.out]; exact hjk))
          obtain ⟨f, hf⟩ : ∃ f, f = zs.getD j 0 := ⟨_, rfl⟩
          rw [← hf] at cz hx1 hx2 hx3 hzz hz0
          have HF := Lib.hid hf
          have hfb : 0 ≤ f ∧ f ≤ 512 := by omega
          have hj64 : (j : Int) < 64 := by omega
          have hjk' : (j : Int) < (k : Int) := by omega
          have hp512 : (p : Int) < 512 := by omega
          have ti3 : (p : Int) < (S : Int) := by omega
          have HX3 := Lib.hid hx3
          have HJ := Lib.hid hj
          have FU := Lib.hid fp
          have CU := Lib.hid cu
          clear hcv hph hfr hf hx1 hx2 hx3 hzz hzs hz0 hj fp cu
          go_wp2_with fail
          go_loopw [12, 11] (fun qv xv wx => ∃ q : Nat, q ≤ p ∧ qv = .int .i64 q ∧ xv = .int .i64 (f + ((posP P j q).length : Nat)) ∧ ∃ m, wx = wr.drewN m) (fun qv _ _ => p - (intOf qv).toNat)
          case atStart => exact ⟨0, by omega, rfl, by simp [posP], 0, rfl⟩
          case round =>
            obtain ⟨q, hq, rfl, rfl, m, rfl⟩ := hrel
            have hle := posP_le P (j : Int) q
            have HST := Lib.hid (posP_step P (j : Int) q)
            obtain ⟨L, hL⟩ : ∃ L, L = (posP P (j : Int) q).length := ⟨_, rfl⟩
            rw [← hL] at hle HST ⊢
            have HL := Lib.hid hL
            clear hL
            by_cases hlt2 : q < p
            case pos =>
              have cq := HCQ.out q (by omega)
              obtain ⟨s, hs⟩ : ∃ s, s = P.getD q 0 := ⟨_, rfl⟩
              rw [← hs] at cq HST
              have ti4 : (q : Int) < (S : Int) := by omega
              have ti5 : (q : Int) < (p : Int) := by omega
              clear hs
              by_cases hsj : s = (j : Int)
              · subst hsj
                rw [if_pos rfl] at HST
                go_wp2_with fail
                go_quiet (fail)
                go_wp2_with fail
                go_roundw
                all_goals go_light
                case rel => exact ⟨q + 1, by omega, by go_num, by rw [HST.out]; go_num, _, rfl⟩
                case measure => simp [intOf]; omega
              · rw [if_neg hsj] at HST
                have tsj : (s == (j : Int)) = false := by simpa using hsj
                go_wp2_with fail
                go_quiet (fail)
                go_wp2_with fail
                go_roundw
                all_goals go_light
                case rel => exact ⟨q + 1, by omega, by go_num, by rw [HST.out]; go_num, _, rfl⟩
                case measure => simp [intOf]; omega
            case neg =>
              obtain rfl : q = p := by omega
              have HXE : Hid (f + (L : Int) = xP zs P q) := by show _ = _; rw [HX3.out, HF.out, HL.out]
              have cu := CU.out
              have fu := FU.out
              go_wp2_with fail
              rw [HXE.out]
              go_roundw
              all_goals go_light
              case rel =>
                refine ⟨q + 1, by omega, by go_num, ?_, ?_⟩
                · exact (HPH2.out.fr ((Fr.refl (fun _ => False) _).drewN m) (fun h => h)).next (by omega)
                · exact (FR2.out.drewN m).setAt (b := w.heap.size) rfl (q * 2 + 1) _
              case measure => simp [intOf]; omega
end Go.Proofs.Ytjdpijjoblfoaaa
