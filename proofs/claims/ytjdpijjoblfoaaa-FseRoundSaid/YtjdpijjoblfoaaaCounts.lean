/- How often each symbol stands (plain); a row made. -/
import Derived.Test.YtjdpijjoblfoaaaFseRd
import Derived.Test.YtjdpijjoblfoaaaShareP
import Derived.Test.YtjdpijjoblfoaaaElems
import Derived.Deep.OwnRows
namespace Go.Proofs.Ytjdpijjoblfoaaa
open Go.RowKit

theorem infoInt : (Try.prog.info? 3).map (fun i => (i.zero, i.size, i.bytes)) = some (some (.int .i64 0), 1, 8) := by kernel_rfl
theorem own_made {k : IntKind} {E : TypeId} {w : World} {N : Nat} (hN : N ≤ 1000000000) (hz : (Lit.int k 0).wf = true) : Own k E w.heap.size (w.alloc (.cells (madeCells #[.int k 0] N) E)) (.slice (some ⟨w.heap.size, 0, none⟩) N N) (List.replicate N 0) := by
  refine ⟨fun z hz' => by rw [List.eq_of_mem_replicate hz']; exact hz, by simp, .inr ⟨w.heap.size, N, madeCells #[.int k 0] N, by simp, Nat.le_refl _, heap_alloc_new w _, by simp, by unfold maxLen; omega, by simp [madeCells], ?_⟩⟩
  simp only [List.length_replicate, Nat.mul_one]
  apply List.ext_getElem?
  intro i
  by_cases hi : i < N
  · simp [madeCells, hi, Nat.mod_one]
  · simp [madeCells, hi]

def cntS (ls : List Int) : Nat → List Int
  | 0 => List.replicate 64 0
  | k + 1 => (cntS ls k).set (ls.getD k 0).toNat ((cntS ls k).getD (ls.getD k 0).toNat 0 + 1)
theorem cntS_length (ls : List Int) : ∀ k, (cntS ls k).length = 64
  | 0 => by simp [cntS]
  | k + 1 => by simp [cntS, cntS_length ls k]
theorem cntS_bound (ls : List Int) : ∀ k i, 0 ≤ (cntS ls k).getD i 0 ∧ (cntS ls k).getD i 0 ≤ (k : Int)
  | 0, i => by
    simp only [cntS, List.getD_eq_getElem?_getD, List.getElem?_replicate]
    split <;> simp
  | k + 1, i => by
    have h1 := cntS_bound ls k i
    have h2 := cntS_bound ls k (ls.getD k 0).toNat
    simp only [cntS]
    by_cases e : i = (ls.getD k 0).toNat
    · by_cases hl : (ls.getD k 0).toNat < (cntS ls k).length
      · rw [e, show ((cntS ls k).set (ls.getD k 0).toNat ((cntS ls k).getD (ls.getD k 0).toNat 0 + 1)).getD (ls.getD k 0).toNat 0 = (cntS ls k).getD (ls.getD k 0).toNat 0 + 1 from by rw [List.getD_eq_getElem?_getD, List.getElem?_set_self hl]; rfl]
        omega
      · rw [List.set_eq_of_length_le (by omega)]; omega
    · rw [show ((cntS ls k).set (ls.getD k 0).toNat ((cntS ls k).getD (ls.getD k 0).toNat 0 + 1)).getD i 0 = (cntS ls k).getD i 0 from by rw [List.getD_eq_getElem?_getD, List.getElem?_set_ne (fun hh => e hh.symm), ← List.getD_eq_getElem?_getD]]
      omega
theorem cntS_pos (ls : List Int) : ∀ k, (∀ i, i < k → 0 ≤ ls.getD i 0 ∧ ls.getD i 0 ≤ 63) → ∀ i, i < k → 0 < (cntS ls k).getD (ls.getD i 0).toNat 0
  | 0, _, i, hi => by omega
  | k + 1, h, i, hi => by
    have hk := h k (by omega)
    have hb := cntS_bound ls k (ls.getD k 0).toNat
    have hl : (ls.getD k 0).toNat < (cntS ls k).length := by rw [cntS_length]; omega
    simp only [cntS]
    by_cases e : (ls.getD i 0).toNat = (ls.getD k 0).toNat
    · rw [e, show ((cntS ls k).set (ls.getD k 0).toNat ((cntS ls k).getD (ls.getD k 0).toNat 0 + 1)).getD (ls.getD k 0).toNat 0 = (cntS ls k).getD (ls.getD k 0).toNat 0 + 1 from by rw [List.getD_eq_getElem?_getD, List.getElem?_set_self hl]; rfl]
      omega
    · rw [show ((cntS ls k).set (ls.getD k 0).toNat ((cntS ls k).getD (ls.getD k 0).toNat 0 + 1)).getD (ls.getD i 0).toNat 0 = (cntS ls k).getD (ls.getD i 0).toNat 0 from by rw [List.getD_eq_getElem?_getD, List.getElem?_set_ne (fun hh => e hh.symm), ← List.getD_eq_getElem?_getD]]
      have : i ≠ k := fun h => e (by rw [h])
      exact cntS_pos ls k (fun j hj => h j (by omega)) i (by omega)
/-- the law of symbols by their own shares -/
theorem cnt_round {ls : List Int} {log : Int} (h : ∀ i, i < ls.length → 0 ≤ ls.getD i 0 ∧ ls.getD i 0 ≤ 63) (hn : ¬ ShNo (cntS ls ls.length) log) :
    ShMay (shareO (cntS ls ls.length) (2 ^ log.toNat)) log ∧ ∀ s ∈ ls, okSym (shareO (cntS ls ls.length) (2 ^ log.toNat)) s = true := by
  obtain ⟨h1, h2, h3⟩ := share_whole hn
  refine ⟨h1, fun s hs => ?_⟩
  obtain ⟨i, hi, rfl⟩ := mem_getD hs
  have hp := cntS_pos ls ls.length h i hi
  have hb := h i hi
  have ht : (ls.getD i 0).toNat < tlen (cntS ls ls.length) (cntS ls ls.length).length := by
    rcases Nat.lt_or_ge (ls.getD i 0).toNat (tlen (cntS ls ls.length) (cntS ls ls.length).length) with h' | h'
    · exact h'
    · exact absurd hp (tlen_zero _ _ _ h' (by rw [cntS_length]; omega))
  have hz := (h3 _ ht).2 hp
  unfold okSym
  rw [decide_eq_true_iff]
  exact ⟨hb.1, by omega, by omega⟩
end Go.Proofs.Ytjdpijjoblfoaaa
