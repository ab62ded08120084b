/- Two lists of runs that are the same are told to be the same. -/
import Derived.Test.YtapagllebpcnhaaAllocStart
import Derived.BigQuiet
namespace Go.Proofs.Ytapagllebpcnhaa
open Go.RowKit

/-- the row behind index k, of two numbers, and the row itself -/
theorem Recs.row2' {w : World} {a : Option Addr} {n c : Nat} {qs : List (List Int)} (h : Recs 2 w (.slice a n c) qs) {k : Nat} (hk : k < n) :
    ∃ b off, a = some ⟨b, off, none⟩ ∧ b < w.heap.size ∧ ∃ q0 q1, w.cell? ⟨b, off + k * 2, none⟩ = some (.int .i64 q0) ∧ w.cell? ⟨b, off + k * 2 + 1, none⟩ = some (.int .i64 q1) ∧
      (-9223372036854775808 ≤ q0 ∧ q0 ≤ 9223372036854775807) ∧ (-9223372036854775808 ≤ q1 ∧ q1 ≤ 9223372036854775807) ∧ qs.getD k [] = [q0, q1] := by
  have h' := h
  obtain ⟨h1, a', c', hv, _, _, hc⟩ := h
  cases hv
  obtain ⟨b, off, e, hcell⟩ := hc k hk
  have h0 := h'.wf hk (j := 0) (by omega)
  have h2 := h'.wf hk (j := 1) (by omega)
  refine ⟨b, off, e, World.block_lt_of_cell? w _ (hcell 0 (by omega)), _, _, hcell 0 (by omega), hcell 1 (by omega), h0, h2, ?_⟩
  have hm : qs.getD k [] ∈ qs := by rw [List.getD_eq_getElem?_getD, List.getElem?_eq_getElem hk]; exact List.getElem_mem _
  obtain ⟨hl, _⟩ := h1 _ hm
  revert hl
  cases qs.getD k [] with
  | nil => intro hl; simp at hl
  | cons x r => cases r with
    | nil => intro hl; simp at hl
    | cons y t => cases t with
      | nil => intro _; simp
      | cons z u => intro hl; simp at hl

set_option maxRecDepth 100000 in
set_option maxHeartbeats 2000000 in
theorem runsTrue {w : World} {u v : Value} {qs : List (List Int)} (hu : Recs 2 w u qs) (hv : Recs 2 w v qs) (hn : qs.length ≤ 1048576) :
    Calls Try.prog 24 #[u, v] w fun e w' => e = .returned (.bool true) ∧ Keeps w w' := by
  have HU := Lib.hid hu
  have HV := Lib.hid hv
  obtain ⟨_, ua, uc, rfl, _, _, _⟩ := hu
  obtain ⟨_, va, vc, rfl, _, _, _⟩ := hv
  obtain ⟨n, hq⟩ : ∃ n, n = qs.length := ⟨_, rfl⟩
  rw [← hq] at hn HU HV ⊢
  clear hq
  go_enter Try.func24, Try.ntmps24
  go_wp2_with fail
  go_loopw [5] (fun i wr => ∃ k : Nat, k ≤ n ∧ i = .int .i64 k ∧ Keeps w wr) (fun i _ => n - (intOf i).toNat)
  case atStart => exact ⟨0, by omega, rfl, Fr.refl _ _⟩
  case round =>
    obtain ⟨k, hk, rfl, hkp⟩ := hrel
    have HK := Lib.hid hkp
    clear hkp
    by_cases hlt : k < n
    case neg =>
      go_wp2_with fail
      go_ret
      go_light
      exact ⟨rfl, HK.out⟩
    obtain ⟨lb, lo, hla, _, q0, q1, c0, c1, b0, b1, hqe⟩ := HU.out.row2' hlt
    obtain ⟨mb, mo, hma, _, p0, p1, e0, e1, _, _, hpe⟩ := HV.out.row2' hlt
    rw [hqe] at hpe
    cases hpe
    subst hla
    subst hma
    have c0 := HK.out.cell (fun h => h) c0
    have c1 := HK.out.cell (fun h => h) c1
    have e0 := HK.out.cell (fun h => h) e0
    have e1 := HK.out.cell (fun h => h) e1
    have t1 : (0 : Int) ≤ (k : Int) := by omega
    have t2 : (k : Int) < (n : Int) := by omega
    clear hqe
    go_wp2_with fail
    go_quiet (fail)
    go_wp2_with fail
    go_roundw
    all_goals go_light
    case rel => exact ⟨k + 1, by omega, by go_num, HK.out.drewN _⟩
    case measure => simp [intOf]; omega
end Go.Proofs.Ytapagllebpcnhaa
