/- What the walks of the laws of alloc share. -/
import Derived.Test.YtapagllebpcnhaaDoes
import Derived.Test.YtapagllebpcnhaaRecs
namespace Go.Proofs.Ytapagllebpcnhaa
open Go.RowKit

/-- the row behind index k, of two numbers -/
theorem Recs.row2 {w : World} {a : Option Addr} {n c : Nat} {qs : List (List Int)} (h : Recs 2 w (.slice a n c) qs) {k : Nat} (hk : k < n) :
    ∃ b off, a = some ⟨b, off, none⟩ ∧ b < w.heap.size ∧ ∃ q0 q1, w.cell? ⟨b, off + k * 2, none⟩ = some (.int .i64 q0) ∧ w.cell? ⟨b, off + k * 2 + 1, none⟩ = some (.int .i64 q1) ∧
      (-9223372036854775808 ≤ q0 ∧ q0 ≤ 9223372036854775807) ∧ (-9223372036854775808 ≤ q1 ∧ q1 ≤ 9223372036854775807) := by
  have h' := h
  obtain ⟨h1, a', c', hv, _, _, hc⟩ := h
  cases hv
  obtain ⟨b, off, e, hcell⟩ := hc k hk
  have h0 := h'.wf hk (j := 0) (by omega)
  have h2 := h'.wf hk (j := 1) (by omega)
  exact ⟨b, off, e, World.block_lt_of_cell? w _ (hcell 0 (by omega)), _, _, hcell 0 (by omega), hcell 1 (by omega), h0, h2⟩

theorem takeA_length (L : Nat) (st : List Int) (rs : Nat) : (takeA L st rs).2.2.1.length = st.length := by
  unfold takeA; split <;> simp
theorem markS_length (L : Nat) (st : List Int) (rs : Nat) (n : Int) : (markS L st rs n).2.length = st.length := by
  unfold markS; split <;> simp
theorem freeS_length (L : Nat) (st : List Int) (n : Int) : (freeS L st n).2.length = st.length := by
  unfold freeS; split <;> simp
theorem dropS_length (L : Nat) (st : List Int) (n : Int) : (dropS L st n).2.length = st.length := by
  unfold dropS; split <;> simp
theorem doesA_length (L : Nat) (st : List Int) (rs : Nat) (kind n : Int) : (doesA L st rs kind n).1.length = st.length := by
  unfold doesA
  split
  · exact takeA_length L st rs
  · split
    · exact markS_length L st rs n
    · split
      · exact freeS_length L st n
      · split
        · exact dropS_length L st n
        · split
          · exact settleS_length st
          · split <;> rfl
theorem ffree_pos {st : List Int} (h : 0 < cnt st 0) : ∃ k, ffree st = some k := by
  cases hf : ffree st with
  | some k => exact ⟨k, rfl⟩
  | none => have := cnt_none (ffree_none hf); omega
end Go.Proofs.Ytapagllebpcnhaa
