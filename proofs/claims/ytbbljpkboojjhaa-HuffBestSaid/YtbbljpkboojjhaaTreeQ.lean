/- The heap's steps, as steps over the list of things. -/
import Derived.Test.YtbbljpkboojjhaaTreeR
namespace Go.Proofs.Ytbbljpkboojjhaa
open Go.RowKit

/-- the queue is a heap, and holds the things -/
structure Que (w : World) (hb ob : Nat) (D : Int → Th) (v : Value) (q : List Int) (l : List Tk) : Prop where
  rel : Rel w ob hb ob D v q l
  heap : HeapN (q.map (keyT D)) q.length

/-- all of it lies below B -/
def LowQ (B hb : Nat) (D : Int → Th) (v : Value) (l : List Tk) : Prop := hb < B ∧ (∀ k, v.ownBlock = some k → k < B) ∧ ∀ t ∈ l, ∀ x, (D t.nr).a = some x → x.block < B

theorem Rel.low_ {w : World} {B hb ob : Nat} {D : Int → Th} {v : Value} {q : List Int} {l : List Tk} (h : Rel w B hb ob D v q l) : LowQ w.heap.size hb D v l :=
  ⟨(Array.getElem?_eq_some_iff.1 h.head).1, fun k hk => (h.own.lt k hk).2, fun t ht x hx => ((h.told t ht).2.2 x hx).2.2.2⟩
theorem Rel.fresh {w w' : World} {B C hb ob : Nat} {D : Int → Th} {v : Value} {q : List Int} {l : List Tk} (h : Rel w B hb ob D v q l) (hl : LowQ C hb D v l) (f : Fr (fun k => C ≤ k ∨ k = ob) w w') (hob : hb ≠ ob) : Rel w' B hb ob D v q l := by
  have hv : ∀ k, v.ownBlock = some k → ¬ (C ≤ k ∨ k = ob) := fun k hk => by
    have h1 := hl.2.1 k hk
    have h2 := h.nob
    rintro (h3 | h3)
    · omega
    · subst h3; exact h2 hk
  refine ⟨f.heap (fun h => by have := hl.1; omega) h.head, h.own.fr f hv, h.ne, h.nob, h.low, h.len, h.same, fun t ht => ?_⟩
  obtain ⟨h1, h2, h3⟩ := h.told t ht
  refine ⟨h1, h2.fr f (fun x n c e h0 hs => ?_), fun x hx => ?_⟩
  · injection e with e1
    have h4 := h3 x e1
    have h5 := hl.2.2 t ht x e1
    rcases hs with hs | hs
    · omega
    · exact h4.2.1 hs
  · have := h3 x hx
    exact ⟨this.1, this.2.1, this.2.2.1, Nat.lt_of_lt_of_le this.2.2.2 f.size⟩

theorem popQ {w : World} {hb ob L c : Nat} {a : Option Addr} {D : Int → Th} {q : List Int} {l : List Tk} {nx : Int} {N F : Nat} {W : Int} (h : Que w hb ob D (.slice a (L + 1) c) q l) (ht : TkOk l nx N F W) (hx : nx ≤ 1024) (hL : L ≤ 1000) (hob : ob < w.heap.size) :
    Calls Try.prog 33 #[.iface 65 (.pointer (some ⟨hb, 0, none⟩))] w fun e w' => e = .returned (.iface 63 (.agg #[.int .i64 (l.getD (leastT l) tk0).wt, .int .i64 (l.getD (leastT l) tk0).nr, .slice (D (l.getD (leastT l) tk0).nr).a (D (l.getD (leastT l) tk0).nr).l (D (l.getD (leastT l) tk0).nr).c])) ∧
      (∃ q', Que w' hb ob D (.slice a L c) q' (l.eraseIdx (leastT l))) ∧ Fr (fun k => k = hb ∨ (Value.slice a (L + 1) c).ownBlock = some k) w w' := by
  have hr := h.rel
  have hlq : q.length = L + 1 := hr.own.len
  have hll := hr.len
  have h0 : 0 < l.length := by omega
  have hn := hr.num ht hx
  obtain ⟨hroot, hmem⟩ := hr.root ht hx h0 h.heap
  have hh := h.heap
  rw [hlq] at hh
  refine (heapPop (D := D) (m := L) hr.own (by omega) hr.head rfl hr.ne hn hh).mono ?_
  rintro e w' ⟨rfl, q', hat, hq', hl', hc⟩
  refine ⟨?_, ⟨q', ?_⟩, hat.fr⟩
  · have h1 := (hr.told _ hmem).1
    rw [hroot]
    unfold cellsT
    rw [h1]
  · refine ⟨hr.pop (leastT_lt h0) hroot hat (by omega) (Nat.le_of_lt hob) hob hc, ?_⟩
    rw [hl']
    exact hq'

theorem initQ {w : World} {hb ob : Nat} {v : Value} {D : Int → Th} {q : List Int} {l : List Tk} {nx : Int} {N F : Nat} {W : Int} (h : Rel w ob hb ob D v q l) (ht : TkOk l nx N F W) (hx : nx ≤ 1024) (hL : l.length ≤ 1000) :
    Calls Try.prog 32 #[.iface 65 (.pointer (some ⟨hb, 0, none⟩))] w fun e w' => e = .returned (.tuple #[]) ∧
      (∃ q', Que w' hb ob D v q' l) ∧ Fr (fun k => v.ownBlock = some k) w w' := by
  have cp := cell_of_row w hb 0 _ _ (0, 0) h.head
  simp at cp
  refine (heapInit (D := D) (N := q.length) cp h.ne h.own rfl (by have := h.len; omega) (h.num ht hx)).mono ?_
  rintro e w' ⟨rfl, q', ho, hl, hh, hs, hf⟩
  refine ⟨rfl, ⟨q', ⟨⟨hf.heap (fun e => h.ne e) h.head, ho, h.ne, h.nob, h.low, by rw [hl]; exact h.len, hs.trans h.same, fun t ht => ?_⟩, by rw [hl]; exact hh⟩⟩, hf⟩
  obtain ⟨h1, h2, h3⟩ := h.told t ht
  refine ⟨h1, h2.fr hf (fun x n c e _ hs => ?_), fun x hx => ?_⟩
  · injection e with e1
    exact (h3 x e1).2.2.1 hs
  · have := h3 x hx
    exact ⟨this.1, this.2.1, this.2.2.1, Nat.lt_of_lt_of_le this.2.2.2 hf.size⟩

theorem pushQ {w : World} {hb ob : Nat} {v : Value} {D : Int → Th} {q : List Int} {l : List Tk} {nx wt : Int} {N F : Nat} {W : Int} {a : Option Addr} {n c : Nat} {ps : List Int} (h : Que w hb ob D v q l) (ht : TkOk l nx N F W) (hx : nx < 1024) (hx0 : 0 ≤ nx) (hL : l.length ≤ 1000) (hob : ob < w.heap.size)
    (hi : Ints .i64 w (.slice a n c) ps) (ha : ∀ x, a = some x → x.block ≠ hb ∧ x.block ≠ ob ∧ v.ownBlock ≠ some x.block ∧ x.block < w.heap.size) :
    Calls Try.prog 35 #[.iface 65 (.pointer (some ⟨hb, 0, none⟩)), .iface 63 (.agg #[.int .i64 wt, .int .i64 nx, .slice a n c])] w fun e w' => e = .returned (.tuple #[]) ∧
      (∃ D' v' q', Que w' hb ob D' v' q' (l ++ [⟨wt, nx, ps⟩])) ∧ Fr (fun k => k = hb ∨ v.ownBlock = some k) w w' := by
  obtain ⟨hr, hk⟩ := h.rel.told_new ht ⟨wt, a, n, c⟩
  have hll := hr.len
  have hn : NumT (q ++ [nx]) := fun i hi => by
    have hnq := h.rel.num ht (by omega)
    by_cases e : i < q.length
    · rw [show (q ++ [nx]).getD i 0 = q.getD i 0 from by rw [List.getD_eq_getElem?_getD, List.getElem?_append_left e, ← List.getD_eq_getElem?_getD]]
      exact hnq i e
    · rw [show (q ++ [nx]).getD i 0 = nx from by
        have : i = q.length := by simp at hi; omega
        subst this
        rw [List.getD_eq_getElem?_getD, List.getElem?_append_right (Nat.le_refl _)]
        simp]
      exact ⟨hx0, hx⟩
  have hcell : cellsT (updT D nx ⟨wt, a, n, c⟩) nx = [.int .i64 wt, .int .i64 nx, .slice a n c] := by simp [cellsT, updT]
  have hp := heapPush (off := 0) (D := updT D nx ⟨wt, a, n, c⟩) (x := nx) hr.own (by omega) hr.head rfl hr.ne hn (by rw [hk]; exact h.heap)
  rw [hcell] at hp
  refine hp.mono ?_
  rintro e w' ⟨rfl, q', v', hat, hq', hl', hs⟩
  refine ⟨rfl, ⟨_, v', q', ⟨hr.push (t := ⟨wt, nx, ps⟩) hat hl' hs (Nat.le_of_lt hob) hob (by simp [updT]) ?_ ?_, hq'⟩⟩, hat.fr⟩
  · simp only [updT, if_true]; exact hi
  · simp only [updT, if_true]; exact ha
end Go.Proofs.Ytbbljpkboojjhaa
