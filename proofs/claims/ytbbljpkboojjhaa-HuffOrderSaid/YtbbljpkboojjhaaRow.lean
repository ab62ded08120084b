/- From what the row's frame says of an argument to what the walks say. -/
import Derived.Test.YtbbljpkboojjhaaOwn
namespace Go.Proofs.Ytbbljpkboojjhaa
open Go.RowKit

theorem ints_of_row {k : IntKind} {w : World} {a : Option Addr} {len cap : Nat} {zs : List Int}
    (h : (a = none ∧ len = 0 ∧ cap = 0 ∧ zs = []) ∨
      ∃ x, a = some x ∧ len ≤ cap ∧ cap ≤ maxLen ∧ zs.length = cap ∧ (∀ i, i < zs.length → w.cell? (x.add i) = some (.int k (zs.getD i 0))) ∧ ∀ n ∈ zs, (Lit.int k n).wf = true) :
    Ints k w (.slice a len cap) (zs.take len) ∧ (zs.take len).length = len := by
  rcases h with ⟨rfl, rfl, rfl, rfl⟩ | ⟨x, rfl, h1, h2, h3, h4, h5⟩
  · exact ⟨⟨fun z hz => by simp at hz, none, 0, rfl, by simp, by unfold maxLen; omega, fun _ => rfl, fun i hi => by simp at hi⟩, rfl⟩
  · have hl : (zs.take len).length = len := by rw [List.length_take]; omega
    refine ⟨⟨fun z hz => h5 z (List.mem_of_mem_take hz), some x, cap, by rw [hl], by omega, h2, (fun h => by cases h), fun i hi => ?_⟩, hl⟩
    obtain ⟨b, off, spot⟩ := x
    have hi' : i < zs.length := by omega
    have hc0 := h4 0 (by omega)
    rw [add_zero] at hc0
    have hs : spot = none := by
      cases spot with
      | none => rfl
      | some s =>
        unfold World.cell? at hc0
        split at hc0 <;> simp at hc0
    subst hs
    refine ⟨b, off, rfl, ?_⟩
    have hc := h4 i hi'
    rw [show (⟨b, off, none⟩ : Addr).add i = ⟨b, off + i, none⟩ from by unfold Addr.add; split <;> simp_all] at hc
    rw [hc]
    simp [List.getD_eq_getElem?_getD, show i < len by omega]
end Go.Proofs.Ytbbljpkboojjhaa
