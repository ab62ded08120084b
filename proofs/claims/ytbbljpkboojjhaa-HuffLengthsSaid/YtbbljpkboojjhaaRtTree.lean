/- The reference's tree. -/
import Derived.Test.YtbbljpkboojjhaaRtOps
import Derived.Test.YtbbljpkboojjhaaTree
import Derived.Test.YtbbljpkboojjhaaHfLenS
import Derived.Deep.OwnRows
import Derived.Deep.LoopGhost
namespace Go.Proofs.Ytbbljpkboojjhaa
open Go.RowKit

/-- the row holds the things; block ob is another's; all lies at B or later -/
structure RelR (w : World) (B ob : Nat) (D : Int → Th) (v : Value) (l : List Tk) : Prop where
  own : OwnR D B w v (l.map fun t => t.nr)
  nob : v.ownBlock ≠ some ob
  told : ∀ t ∈ l, (D t.nr).wt = t.wt ∧ Ints .i64 w (.slice (D t.nr).a (D t.nr).l (D t.nr).c) t.ps ∧ ∀ x, (D t.nr).a = some x → x.block ≠ ob ∧ v.ownBlock ≠ some x.block ∧ x.block < w.heap.size
theorem RelR.fr {S : Nat → Prop} {w w' : World} {B ob : Nat} {D : Int → Th} {v : Value} {l : List Tk} (h : RelR w B ob D v l) (f : Fr S w w') (hv : ∀ k, v.ownBlock = some k → ¬ S k) (hS : ∀ k, S k → k = ob ∨ w.heap.size ≤ k) : RelR w' B ob D v l := by
  refine ⟨h.own.fr f hv, h.nob, fun t ht => ?_⟩
  obtain ⟨h1, h2, h3⟩ := h.told t ht
  refine ⟨h1, h2.fr f (fun x n c e h0 hs => ?_), fun x hx => ?_⟩
  · injection e with e1
    have := h3 x e1
    rcases hS _ hs with h' | h'
    · exact this.1 h'
    · omega
  · have := h3 x hx
    exact ⟨this.1, this.2.1, Nat.lt_of_lt_of_le this.2.2 f.size⟩
theorem RelR.keeps {w w' : World} {B ob : Nat} {D : Int → Th} {v : Value} {l : List Tk} (h : RelR w B ob D v l) (f : Keeps w w') : RelR w' B ob D v l := h.fr f (fun _ _ h => h) (fun _ h => h.elim)
theorem RelR.told_new {w : World} {B ob : Nat} {D : Int → Th} {v : Value} {l : List Tk} {nx : Int} {N F : Nat} {W : Int} (h : RelR w B ob D v l) (ht : TkOk l nx N F W) (t : Th) : RelR w B ob (updT D nx t) v l := by
  have hD : ∀ s ∈ l, updT D nx t s.nr = D s.nr := fun s hs => by
    have := (ht.nr s hs).2
    unfold updT
    rw [if_neg (by omega)]
  refine ⟨h.own.told (fun n hn => ?_), h.nob, fun s hs => ?_⟩
  · obtain ⟨s, hs, e⟩ := List.mem_map.1 hn
    rw [← e]; exact hD s hs
  · rw [hD s hs]; exact h.told s hs
theorem RelR.push {w w' : World} {B ob : Nat} {D : Int → Th} {v v' : Value} {l : List Tk} {t : Tk} (h : RelR w B ob D v l) (ho : OwnR D B w' v' ((l.map fun t => t.nr) ++ [t.nr])) (f : Fr (fun k => v.ownBlock = some k) w w') (hat : v'.ownBlock = v.ownBlock ∨ ∀ k, v'.ownBlock = some k → w.heap.size ≤ k) (hob : ob < w.heap.size)
    (hw : (D t.nr).wt = t.wt) (hi : Ints .i64 w (.slice (D t.nr).a (D t.nr).l (D t.nr).c) t.ps) (hx : ∀ x, (D t.nr).a = some x → x.block ≠ ob ∧ v.ownBlock ≠ some x.block ∧ x.block < w.heap.size) : RelR w' B ob D v' (l ++ [t]) := by
  have hat' : ∀ k, v'.ownBlock = some k → v.ownBlock = some k ∨ w.heap.size ≤ k := fun k hk => by
    rcases hat with h1 | h1
    · exact .inl (h1.symm.trans hk)
    · exact .inr (h1 k hk)
  refine ⟨by rw [List.map_append]; exact ho, fun e => ?_, fun s hs => ?_⟩
  · rcases hat' _ e with h1 | h1
    · exact h.nob h1
    · omega
  · have key : (D s.nr).wt = s.wt ∧ Ints .i64 w (.slice (D s.nr).a (D s.nr).l (D s.nr).c) s.ps ∧ ∀ x, (D s.nr).a = some x → x.block ≠ ob ∧ v.ownBlock ≠ some x.block ∧ x.block < w.heap.size := by
      rcases List.mem_append.1 hs with h1 | h1
      · exact h.told s h1
      · simp at h1; subst h1; exact ⟨hw, hi, hx⟩
    obtain ⟨h1, h2, h3⟩ := key
    refine ⟨h1, h2.fr f (fun x n c e hn hs => ?_), fun x hx => ?_⟩
    · injection e with e1
      exact (h3 x e1).2.1 hs
    · have := h3 x hx
      refine ⟨this.1, fun e => ?_, Nat.lt_of_lt_of_le this.2.2 f.size⟩
      rcases hat' _ e with h1 | h1
      · exact this.2.1 h1
      · omega
theorem map_erase (f : Tk → Int) : ∀ (l : List Tk) (i : Nat), (l.map f).eraseIdx i = (l.eraseIdx i).map f
  | [], _ => rfl
  | x :: l, 0 => rfl
  | x :: l, i + 1 => by simp only [List.map_cons, List.eraseIdx_cons_succ]; rw [map_erase f l i]
theorem RelR.without {w w' : World} {B ob i : Nat} {D : Int → Th} {v v' : Value} {l : List Tk} (h : RelR w B ob D v l) (ho : OwnR D w.heap.size w' v' ((l.map fun t => t.nr).eraseIdx i)) (f : Keeps w w') (hob : ob < w.heap.size) (hB : B ≤ w.heap.size) : RelR w' B ob D v' (l.eraseIdx i) := by
  have hlt := ho.lt
  refine ⟨by rw [← map_erase]; exact ho.mono hB, fun e => by have := (hlt _ e).1; omega, fun t ht => ?_⟩
  obtain ⟨h1, h2, h3⟩ := h.told t (List.mem_of_mem_eraseIdx ht)
  refine ⟨h1, h2.keeps f, fun x hx => ?_⟩
  have := h3 x hx
  exact ⟨this.1, fun e => by have := (hlt _ e).1; omega, Nat.lt_of_lt_of_le this.2.2 f.size⟩

/-- the greatest of the first k, and none -/
def mxK (l : List Int) : Nat → Int
  | 0 => 0
  | k + 1 => if mxK l k < l.getD k 0 then l.getD k 0 else mxK l k
theorem mxK_bound (l : List Int) {M : Int} (h0 : 0 ≤ M) : ∀ k, mxK l k ≤ M ↔ ∀ i, i < k → l.getD i 0 ≤ M
  | 0 => ⟨fun _ i hi => by omega, fun _ => h0⟩
  | k + 1 => by
    have ih := mxK_bound l h0 k
    simp only [mxK]
    refine ⟨fun h i hi => ?_, fun h => ?_⟩
    · split at h
      · rename_i hlt
        by_cases e : i = k
        · subst e; exact h
        · exact (ih.1 (by omega)) i (by omega)
      · rename_i hlt
        by_cases e : i = k
        · subst e; omega
        · exact (ih.1 h) i (by omega)
    · split
      · exact h k (by omega)
      · exact ih.2 (fun i hi => h i (by omega))
theorem mxK_max {l : List Int} (h : 0 < l.length) : mxK l l.length ≤ 11 ↔ maxS l ≤ 11 := by rw [mxK_bound l (by decide), gre_bound h]

/-- the tree told by things -/
theorem treeS_of {cs : List Int} {L : Nat} (h : L = (leafS cs cs.length).length) (h1 : ¬ L = 1) : treeS cs = treeN L (leafS cs cs.length) (List.replicate cs.length 0) (L : Int) := by
  unfold treeS
  simp only
  rw [if_neg (by rw [← h]; exact h1), ← h]

theorem own_nil_keeps {w w' : World} (f : Fr (fun j => (Value.slice none 0 0).ownBlock = some j) w w') : Keeps w w' := f.mono (fun i _ h => by cases h)
end Go.Proofs.Ytbbljpkboojjhaa
