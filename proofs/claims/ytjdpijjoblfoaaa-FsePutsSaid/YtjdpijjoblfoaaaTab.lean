/- The table of a share, in memory. -/
import Derived.Test.YtjdpijjoblfoaaaFseS
import Derived.Test.YtjdpijjoblfoaaaElems
namespace Go.Proofs.Ytjdpijjoblfoaaa
open Go.RowKit

theorem Ints.blk {k : IntKind} {w : World} {a : Option Addr} {n c : Nat} {zs : List Int} (h : Ints k w (.slice a n c) zs) (h0 : 0 < n) (x : Addr) (hx : a = some x) : x.block < w.heap.size := by
  obtain ⟨_, a', c', e, _, _, _, hcc⟩ := h
  injection e with e1 e2
  subst e1
  obtain ⟨b, off, e3, hc⟩ := hcc 0 (by omega)
  rw [e3] at hx
  cases hx
  exact World.block_lt_of_cell? w _ hc
/-- The table of a share at block T: all of it below hi. -/
structure Tab (w : World) (T lo hi : Nat) (share : List Int) (S : Nat) : Prop where
  ge : lo ≤ T
  lt : T < hi
  hiw : hi ≤ w.heap.size
  size : w.cell? ⟨T, 1600, none⟩ = some (.int .i64 (S : Int))
  to : ∀ s, s < share.length → ∃ a c, w.cell? ⟨T, 1536 + s, none⟩ = some (.slice a (posP (symP S share) s S).length c) ∧ Ints .i64 w (.slice a (posP (symP S share) s S).length c) (posP (symP S share) s S) ∧ (∀ x, a = some x → lo ≤ x.block ∧ x.block < hi)
  pl : ∀ p, p < S → w.cell? ⟨T, p * 3, none⟩ = some (.int .i64 ((symP S share).getD p 0)) ∧
    w.cell? ⟨T, p * 3 + 1, none⟩ = some (.int .i64 (shlN 10 (xP share (symP S share) p) (S : Int) : Nat)) ∧
    w.cell? ⟨T, p * 3 + 2, none⟩ = some (.int .i64 (xP share (symP S share) p * 2 ^ (shlN 10 (xP share (symP S share) p) (S : Int)) - (S : Int)))

theorem Tab.fr {R : Nat → Prop} {w w' : World} {T lo hi : Nat} {share : List Int} {S : Nat} (h : Tab w T lo hi share S) (f : Fr R w w') (hS : ∀ k, R k → k < lo ∨ hi ≤ k) : Tab w' T lo hi share S := by
  have hT : ¬ R T := fun e => by have := hS _ e; have := h.lt; have := h.ge; omega
  refine ⟨h.ge, h.lt, Nat.le_trans h.hiw f.size, f.cell hT h.size, fun s hs => ?_, fun p hp => ?_⟩
  · obtain ⟨a, c, h1, h2, h3⟩ := h.to s hs
    refine ⟨a, c, f.cell hT h1, h2.fr f (fun x n c e _ hx => ?_), h3⟩
    cases e
    have := hS _ hx
    have := h3 x rfl
    omega
  · obtain ⟨h1, h2, h3⟩ := h.pl p hp
    exact ⟨f.cell hT h1, f.cell hT h2, f.cell hT h3⟩
theorem Tab.keeps {w w' : World} {T lo hi : Nat} {share : List Int} {S : Nat} (h : Tab w T lo hi share S) (f : Keeps w w') : Tab w' T lo hi share S := h.fr f (fun _ h => h.elim)
end Go.Proofs.Ytjdpijjoblfoaaa
