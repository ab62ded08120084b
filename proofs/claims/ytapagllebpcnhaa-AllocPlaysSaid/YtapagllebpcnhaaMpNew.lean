/- The map of numbers: New. -/
import Derived.Test.YtapagllebpcnhaaMpTake
import Derived.Deep.OwnRows
namespace Go.Proofs.Ytapagllebpcnhaa
open Go.RowKit

theorem infoByte : (Try.prog.info? 5).map (fun i => (i.zero, i.size, i.bytes)) = some (some (.int .u8 0), 1, 1) := by kernel_rfl
theorem infoInt : (Try.prog.info? 3).map (fun i => (i.zero, i.size, i.bytes)) = some (some (.int .i64 0), 1, 8) := by kernel_rfl

theorem mapNewNo {w : World} {l e : Int} (h : l < 0 ∨ 65536 < e ∨ e < l) :
    Calls Try.prog 8 #[.int .i64 l, .int .i64 e] w fun e w' => e = .returned (.tuple #[.pointer none, .int .i64 1]) ∧ w' = w := by
  have hor : l < 0 ∨ (0 ≤ l ∧ 65536 < e) ∨ (0 ≤ l ∧ e ≤ 65536 ∧ e < l) := by omega
  clear h
  rcases hor with h | ⟨h1, h2⟩ | ⟨h1, h2, h3⟩
  all_goals
    go_enter Try.func8, Try.ntmps8
    go_wp2_with fail
    go_ret2
    exact ⟨rfl, rfl⟩

theorem own_made {k : IntKind} {E : TypeId} {w : World} {N : Nat} (hN : N ≤ 1000000000) (hz : (Lit.int k 0).wf = true) : Own k E 0 (w.alloc (.cells (madeCells #[.int k 0] N) E)) (.slice (some ⟨w.heap.size, 0, none⟩) N N) (List.replicate N 0) := by
  refine ⟨fun z hz' => by rw [List.eq_of_mem_replicate hz']; exact hz, by simp, .inr ⟨w.heap.size, N, madeCells #[.int k 0] N, by simp, Nat.zero_le _, heap_alloc_new w _, by simp, by unfold maxLen; omega, by simp [madeCells], ?_⟩⟩
  simp only [List.length_replicate, Nat.mul_one]
  apply List.ext_getElem?
  intro i
  by_cases hi : i < N
  · simp [madeCells, hi, Nat.mod_one]
  · simp [madeCells, hi]

/-- the numbers from L on -/
def numsL (L k : Nat) : List Int := (List.range k).map fun i => ((L + i : Nat) : Int)
theorem numsL_get {L k i : Nat} (h : i < k) : (numsL L k).getD i 0 = ((L + i : Nat) : Int) := by
  simp [numsL, List.getD_eq_getElem?_getD, h]
theorem numsL_succ (L k : Nat) : numsL L (k + 1) = numsL L k ++ [((L + k : Nat) : Int)] := by
  simp [numsL, List.range_succ]
theorem cnt_rep0 (N : Nat) : cnt (List.replicate N 0) 0 = N := by simp [cnt]
theorem cnt_rep2 (N : Nat) : cnt (List.replicate N 0) 2 = 0 := by simp [cnt]

set_option maxRecDepth 100000 in
set_option maxHeartbeats 2000000 in
theorem mapNew {R : Nat → Prop} {w : World} {L N : Nat} (h : L + N ≤ 65536) (hR : ∀ k, R k → k < w.heap.size) :
    Calls Try.prog 8 #[.int .i64 L, .int .i64 ((L : Int) + (N : Int))] w fun e w' => ∃ b, e = .returned (.tuple #[.pointer (some ⟨b, 0, none⟩), .int .i64 0]) ∧ (∃ s, MpX R w' b s L (List.replicate N 0) 0 N) ∧ Keeps w w' := by
  have hmk0 := run_make_row' (P := Try.prog) 50 5 (.int .u8 0) 1 Try.underlying50 infoByte rfl .i64 .i64 N (by omega) (by omega)
  have hmk : ∀ w : World, (Instr.makeSlice 50 (.int .i64 ((L : Int) + (N : Int) - (L : Int))) (.int .i64 ((L : Int) + (N : Int) - (L : Int)))).run Try.prog w = .ok (.slice (some ⟨w.heap.size, 0, none⟩) N N) (w.alloc (.cells (madeCells #[.int .u8 0] N) 5)) := by
    rw [show (L : Int) + (N : Int) - (L : Int) = (N : Int) by omega]; exact hmk0
  clear hmk0
  go_enter Try.func8, Try.ntmps8
  go_wp2_with fail
  have hb0 : ((w.alloc (.cells (madeCells #[.int .u8 0] N) 5)).alloc (.cells #[.int .i64 L, .slice (some ⟨w.heap.size, 0, none⟩) N N, .slice none 0 0, .int .i64 ((L : Int) + (N : Int) - (L : Int)), .int .i64 0, .int .i64 0] 53)).heap[w.heap.size + 1]? = some (.cells #[.int .i64 L, .slice (some ⟨w.heap.size, 0, none⟩) N N, .slice none 0 0, .int .i64 N, .int .i64 0, .int .i64 0] 53 (0, 0)) := by
    rw [show (L : Int) + (N : Int) - (L : Int) = (N : Int) by omega]
    have := heap_alloc_new (w.alloc (.cells (madeCells #[.int .u8 0] N) 5)) (.cells #[.int .i64 L, .slice (some ⟨w.heap.size, 0, none⟩) N N, .slice none 0 0, .int .i64 N, .int .i64 0, .int .i64 0] 53)
    simpa using this
  have HB0 := Lib.hid hb0
  clear hb0 hmk
  go_loopw [7] (fun iv wr => ∃ (k : Nat) (v : Value), k ≤ N ∧ iv = .int .i64 ((L : Int) + (k : Int)) ∧ wr.heap[w.heap.size + 1]? = some (.cells #[.int .i64 L, .slice (some ⟨w.heap.size, 0, none⟩) N N, v, .int .i64 N, .int .i64 0, .int .i64 0] 53 (0, 0)) ∧
      Own .i64 3 (w.heap.size + 2) wr v (numsL L k) ∧ Own .u8 5 0 wr (.slice (some ⟨w.heap.size, 0, none⟩) N N) (List.replicate N 0) ∧ w.heap.size + 2 ≤ wr.heap.size ∧ Keeps w wr) (fun iv _ => L + N - (intOf iv).toNat)
  case atStart =>
    refine ⟨0, .slice none 0 0, by omega, by simp, HB0.out, Own.nil _ _ _ _, (own_made (by omega) (by decide)).keeps ((Fr.refl _ _).alloc _), by simp, ((Fr.refl _ _).alloc _).alloc _⟩
  case round =>
    obtain ⟨k, v, hk, rfl, hh, ho, hs, hsz, hkp⟩ := hrel
    have d2 := cell_of_row wr (w.heap.size + 1) 2 _ _ (0, 0) hh
    have f2 := frozen_no hh 2
    simp at d2
    obtain ⟨va, vc, hv⟩ := ho.form
    have hnl : (numsL L k).length = k := by simp [numsL]
    rw [hnl] at hv
    subst hv
    have HH := Lib.hid hh
    have HO := Lib.hid ho
    have HS := Lib.hid hs
    have HK := Lib.hid hkp
    have hbl := World.block_lt_of_cell? _ _ d2
    have HBL := Lib.hid hbl
    clear hh ho hs hkp hbl hnl
    by_cases hlt : k < N
    case pos =>
      have HNB : Hid (¬ (Value.slice va k vc).ownBlock = some (w.heap.size + 1)) := fun e => by have := (HO.out.lt _ e).1; omega
      go_wp2_with (at_builtin; go_loud (refine wpList_int rfl (.tmp 39) (.tmp 41) rfl elemN (.slice va k vc) rfl rfl HO.out (by simp [Lit.wf, IntKind.min, IntKind.max, IntKind.signed, IntKind.bits]; omega) (by simp [numsL]; omega) hsz ?_); intro v5 w5 hown5 hfr5 hat5; have cp5 := hfr5.cell (p := ⟨w.heap.size + 1, 2, none⟩) (fun h => HNB.out h) d2; have fp5 := (hfr5.frozen (p := ⟨w.heap.size + 1, 2, none⟩) (fun h => HNB.out h) HBL.out).trans f2; obtain ⟨a5, c5, hv5⟩ := hown5.form; subst hv5; have H5 := Lib.hid hown5; have F5 := Lib.hid hfr5; clear hown5 hfr5 hat5)
      have hl5 : (numsL L k ++ [(L : Int) + (k : Int)]).length = (numsL L k).length + 1 := by simp
      go_roundw
      all_goals go_light
      case rel =>
        have hnv : ∀ x, (Value.slice a5 (numsL L k ++ [(L : Int) + (k : Int)]).length c5).ownBlock = some x → w.heap.size + 2 ≤ x := fun x hx => (H5.out.lt x hx).1
        have hns : numsL L k ++ [(L : Int) + (k : Int)] = numsL L (k + 1) := by rw [numsL_succ, show ((L + k : Nat) : Int) = (L : Int) + (k : Int) by omega]
        have hh5 := F5.out.heap (fun h => HNB.out h) HH.out
        have hs5 := HS.out.fr F5.out (fun x hx e => by have := (HO.out.lt _ e).1; have hx2 : w.heap.size = x := Option.some.inj hx; omega)
        have hk5 := HK.out.trans F5.out (fun i hi e => by have := (HO.out.lt _ e).1; omega)
        refine ⟨k + 1, _, by omega, by go_num, by rw [heap_set hh5]; rfl, ?_, hs5.fr ((Fr.refl (fun x => x = w.heap.size + 1) w5).setAt rfl 2 _) (fun x hx e => by have hx2 : w.heap.size = x := Option.some.inj hx; omega), ?_, hk5.trans ((Fr.refl (fun x => x = w.heap.size + 1) w5).setAt rfl 2 _) (fun i hi e => by omega)⟩
        · rw [← hns]
          have := H5.out
          rw [hl5] at this
          exact this.fr ((Fr.refl (fun x => x = w.heap.size + 1) w5).setAt rfl 2 _) (fun x hx e => by have := hnv x (by rw [hl5]; exact hx); omega)
        · have := F5.out.size; simp; omega
      case measure => simp [intOf]; omega
    case neg =>
      have hkN : Hid (k = N) := by show _ = _; omega
      go_wp2_with fail
      go_ret2
      go_light
      refine ⟨w.heap.size + 1, rfl, ⟨w.heap.size, .slice va k vc, numsL L k, 53, ?_⟩, HK.out⟩
      have hkn := hkN.out
      subst hkn
      have hgl : ∀ y, MemN (numsL L k) k y → (L : Int) ≤ y ∧ y < L + k := fun y ⟨i, hi, he⟩ => by
        rw [numsL_get hi] at he
        omega
      have hnl : (numsL L k).length = k := by simp [numsL]
      refine ⟨by rw [List.length_replicate, cnt_rep0, cnt_rep2]; exact HH.out, by rw [List.length_replicate]; exact HS.out, HO.out.mono (by omega), by omega, fun e => by have := (HO.out.lt _ e).1; omega, fun e => by have := (HO.out.lt _ e).1; omega, fun i h1 h2 => ?_, fun y hy => ?_, fun i hi hz => ?_, fun i hi => ?_, by omega, by rw [List.length_replicate]; exact h, by rw [hnl, cnt_rep2]; omega, fun x hx => by have := hR x hx; omega, fun hx => by have := hR _ hx; omega, fun hx => by have := hR _ hx; omega, fun x hx hr => by have h1 := (HO.out.lt _ hx).1; have h2 := hR _ hr; omega⟩
      · rw [hnl] at h2
        rw [numsL_get h2, numsL_get (by omega)]
        omega
      · rw [hnl] at hy
        rw [List.length_replicate]
        exact hgl y hy
      · rw [List.length_replicate] at hi
        exact ⟨i, by rw [hnl]; exact hi, numsL_get hi⟩
      · rw [List.length_replicate] at hi
        simp [List.getD_eq_getElem?_getD, hi]
end Go.Proofs.Ytapagllebpcnhaa
