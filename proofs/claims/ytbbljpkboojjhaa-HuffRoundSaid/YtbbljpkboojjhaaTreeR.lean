/- The tree's things in memory. -/
import Derived.Test.YtbbljpkboojjhaaTreeS
import Derived.Test.YtbbljpkboojjhaaThPP
import Derived.Test.YtbbljpkboojjhaaConcat
namespace Go.Proofs.Ytbbljpkboojjhaa
open Go.RowKit

/-- the queue, whose header lies at block hb, holds the things; block ob is another's; all of it lies at B or later -/
structure Rel (w : World) (B hb ob : Nat) (D : Int → Th) (v : Value) (q : List Int) (l : List Tk) : Prop where
  head : w.heap[hb]? = some (.cells #[v] 61 (0, 0))
  own : OwnT D 0 w v q
  ne : v.ownBlock ≠ some hb
  nob : v.ownBlock ≠ some ob
  low : ∀ k, v.ownBlock = some k → B ≤ k
  len : q.length = l.length
  same : SameN q (l.map fun t => t.nr)
  told : ∀ t ∈ l, (D t.nr).wt = t.wt ∧ Ints .i64 w (.slice (D t.nr).a (D t.nr).l (D t.nr).c) t.ps ∧ ∀ x, (D t.nr).a = some x → x.block ≠ hb ∧ x.block ≠ ob ∧ v.ownBlock ≠ some x.block ∧ x.block < w.heap.size

theorem Rel.fr {S : Nat → Prop} {w w' : World} {B hb ob : Nat} {D : Int → Th} {v : Value} {q : List Int} {l : List Tk} (h : Rel w B hb ob D v q l) (f : Fr S w w') (hh : ¬ S hb) (hv : ∀ k, v.ownBlock = some k → ¬ S k) (hS : ∀ k, S k → k = ob ∨ w.heap.size ≤ k) : Rel w' B hb ob D v q l := by
  refine ⟨f.heap hh h.head, h.own.fr f hv, h.ne, h.nob, h.low, h.len, h.same, fun t ht => ?_⟩
  obtain ⟨h1, h2, h3⟩ := h.told t ht
  refine ⟨h1, h2.fr f (fun x n c e h0 hs => ?_), fun x hx => ?_⟩
  · injection e with e1
    have := h3 x e1
    rcases hS _ hs with h' | h'
    · exact this.2.1 h'
    · omega
  · have := h3 x hx
    exact ⟨this.1, this.2.1, this.2.2.1, Nat.lt_of_lt_of_le this.2.2.2 f.size⟩
theorem Rel.keeps {w w' : World} {B hb ob : Nat} {D : Int → Th} {v : Value} {q : List Int} {l : List Tk} (h : Rel w B hb ob D v q l) (f : Keeps w w') : Rel w' B hb ob D v q l := h.fr f (fun h => h) (fun _ _ h => h) (fun _ h => h.elim)
theorem Rel.num {w : World} {B hb ob : Nat} {D : Int → Th} {v : Value} {q : List Int} {l : List Tk} {nx : Int} {N F : Nat} {W : Int} (h : Rel w B hb ob D v q l) (ht : TkOk l nx N F W) (hx : nx ≤ 1024) : NumT q := fun i hi => by
  obtain ⟨t, htm, e⟩ := List.mem_map.1 (h.same.mem.1 (getD_in hi))
  have := ht.nr t htm
  rw [← e]
  omega
/-- the heap's root is the least -/
theorem Rel.root {w : World} {B hb ob : Nat} {D : Int → Th} {v : Value} {q : List Int} {l : List Tk} {nx : Int} {N F : Nat} {W : Int} (h : Rel w B hb ob D v q l) (ht : TkOk l nx N F W) (hx : nx ≤ 1024) (h0 : 0 < l.length) (hq : HeapN (q.map (keyT D)) q.length) :
    q.getD 0 0 = (l.getD (leastT l) tk0).nr ∧ l.getD (leastT l) tk0 ∈ l := by
  have hl := h.len
  have hlt := leastT_lt h0
  have htm := getD_tk hlt
  obtain ⟨t, he⟩ : ∃ t, t = l.getD (leastT l) tk0 := ⟨_, rfl⟩
  rw [← he] at htm ⊢
  refine ⟨?_, htm⟩
  obtain ⟨t0, ht0, e0⟩ := List.mem_map.1 (h.same.mem.1 (getD_in (l := q) (i := 0) (by omega)))
  have htq : t.nr ∈ q := h.same.mem.2 (List.mem_map.2 ⟨t, htm, rfl⟩)
  obtain ⟨i, hi, ei⟩ := in_getD htq
  have hr := HeapN.root hq i hi
  rw [map_get D q (by omega), map_get D q hi, ei, ← e0] at hr
  have hk : ∀ s ∈ l, keyT D s.nr = keyK s := fun s hs => by unfold keyT keyK; rw [(h.told s hs).1]
  rw [hk t0 ht0, hk t htm] at hr
  have hm := leastT_min l t0 ht0
  rw [← he] at hm
  have n1 := ht.nr t htm
  have n2 := ht.nr t0 ht0
  rw [← e0]
  show t0.nr = t.nr
  unfold keyK at hr hm
  omega
theorem Rel.pop {w w' : World} {B hb ob : Nat} {D : Int → Th} {v v' : Value} {q q' : List Int} {l : List Tk} {i : Nat} (h : Rel w B hb ob D v q l) (hi : i < l.length) (h0 : q.getD 0 0 = (l.getD i tk0).nr) (ha : ThAt D w w' hb 0 v v' q') (hl : q'.length + 1 = q.length) (hB : B ≤ w.heap.size) (hob : ob < w.heap.size)
    (hc : ∀ s, cntL q' s + (if q.getD 0 0 = s then 1 else 0) = cntL q s) : Rel w' B hb ob D v' q' (l.eraseIdx i) := by
  have hbl : hb < w.heap.size := (Array.getElem?_eq_some_iff.1 h.head).1
  have hat : ∀ k, v'.ownBlock = some k → v.ownBlock = some k ∨ w.heap.size ≤ k := fun k hk => by
    rcases ha.at_ with h1 | h1
    · exact .inl (h1.symm.trans hk)
    · exact .inr (h1 k hk)
  refine ⟨?_, ha.own, fun e => ?_, fun e => ?_, fun k hk => ?_, ?_, fun s => ?_, fun t ht => ?_⟩
  · have := ha.head _ _ h.head
    simpa using this
  · rcases hat _ e with h1 | h1
    · exact h.ne h1
    · omega
  · rcases hat _ e with h1 | h1
    · exact h.nob h1
    · omega
  · rcases hat _ hk with h1 | h1
    · exact h.low _ h1
    · omega
  · rw [List.length_eraseIdx, if_pos hi]
    have := h.len
    omega
  · have h1 := hc s
    have h2 := h.same s
    have h3 := map_erase_cnt l i hi s
    rw [h0] at h1
    omega
  · obtain ⟨h1, h2, h3⟩ := h.told t (List.mem_of_mem_eraseIdx ht)
    refine ⟨h1, h2.fr ha.fr (fun x n c e hn hs => ?_), fun x hx => ?_⟩
    · injection e with e1
      have := h3 x e1
      rcases hs with hs | hs
      · exact this.1 hs
      · exact this.2.2.1 hs
    · have := h3 x hx
      refine ⟨this.1, this.2.1, fun e => ?_, Nat.lt_of_lt_of_le this.2.2.2 ha.fr.size⟩
      rcases hat _ e with h1 | h1
      · exact this.2.2.1 h1
      · omega
/-- the tale, with one more -/
def updT (D : Int → Th) (n : Int) (t : Th) : Int → Th := fun m => if m = n then t else D m
theorem Rel.told_new {w : World} {B hb ob : Nat} {D : Int → Th} {v : Value} {q : List Int} {l : List Tk} {nx : Int} {N F : Nat} {W : Int} (h : Rel w B hb ob D v q l) (ht : TkOk l nx N F W) (t : Th) :
    Rel w B hb ob (updT D nx t) v q l ∧ q.map (keyT (updT D nx t)) = q.map (keyT D) := by
  have hne : ∀ n ∈ q, n ≠ nx := fun n hn e => by
    obtain ⟨s, hs, e2⟩ := List.mem_map.1 (h.same.mem.1 hn)
    have := (ht.nr s hs).2
    have e2 : s.nr = n := e2
    omega
  have hD : ∀ n ∈ q, updT D nx t n = D n := fun n hn => by unfold updT; rw [if_neg (hne n hn)]
  refine ⟨⟨h.head, h.own.told hD, h.ne, h.nob, h.low, h.len, h.same, fun s hs => ?_⟩, ?_⟩
  · rw [hD s.nr (h.same.mem.2 (List.mem_map.2 ⟨s, hs, rfl⟩))]
    exact h.told s hs
  · apply List.map_congr_left
    intro n hn
    unfold keyT
    rw [hD n hn]
/-- one thing more -/
theorem Rel.push {w w' : World} {B hb ob : Nat} {D : Int → Th} {v v' : Value} {q q' : List Int} {l : List Tk} {t : Tk} (h : Rel w B hb ob D v q l) (ha : ThAt D w w' hb 0 v v' q') (hl : q'.length = q.length + 1) (hs : SameN q' (q ++ [t.nr])) (hB : B ≤ w.heap.size) (hob : ob < w.heap.size)
    (hw : (D t.nr).wt = t.wt) (hi : Ints .i64 w (.slice (D t.nr).a (D t.nr).l (D t.nr).c) t.ps) (hx : ∀ x, (D t.nr).a = some x → x.block ≠ hb ∧ x.block ≠ ob ∧ v.ownBlock ≠ some x.block ∧ x.block < w.heap.size) : Rel w' B hb ob D v' q' (l ++ [t]) := by
  have hbl : hb < w.heap.size := (Array.getElem?_eq_some_iff.1 h.head).1
  have hat : ∀ k, v'.ownBlock = some k → v.ownBlock = some k ∨ w.heap.size ≤ k := fun k hk => by
    rcases ha.at_ with h1 | h1
    · exact .inl (h1.symm.trans hk)
    · exact .inr (h1 k hk)
  refine ⟨?_, ha.own, fun e => ?_, fun e => ?_, fun k hk => ?_, ?_, fun s => ?_, fun s ht => ?_⟩
  · have := ha.head _ _ h.head
    simpa using this
  · rcases hat _ e with h1 | h1
    · exact h.ne h1
    · omega
  · rcases hat _ e with h1 | h1
    · exact h.nob h1
    · omega
  · rcases hat _ hk with h1 | h1
    · exact h.low _ h1
    · omega
  · rw [hl, List.length_append, h.len]; rfl
  · have h1 := hs s
    have h2 := h.same s
    rw [cntL_append] at h1
    rw [List.map_append, cntL_append]
    simp only [List.map_cons, List.map_nil]
    omega
  · have key : (D s.nr).wt = s.wt ∧ Ints .i64 w (.slice (D s.nr).a (D s.nr).l (D s.nr).c) s.ps ∧ ∀ x, (D s.nr).a = some x → x.block ≠ hb ∧ x.block ≠ ob ∧ v.ownBlock ≠ some x.block ∧ x.block < w.heap.size := by
      rcases List.mem_append.1 ht with h1 | h1
      · exact h.told s h1
      · simp at h1; subst h1; exact ⟨hw, hi, hx⟩
    obtain ⟨h1, h2, h3⟩ := key
    refine ⟨h1, h2.fr ha.fr (fun x n c e hn hs => ?_), fun x hx => ?_⟩
    · injection e with e1
      have := h3 x e1
      rcases hs with hs | hs
      · exact this.1 hs
      · exact this.2.2.1 hs
    · have := h3 x hx
      refine ⟨this.1, this.2.1, fun e => ?_, Nat.lt_of_lt_of_le this.2.2.2 ha.fr.size⟩
      rcases hat _ e with h1 | h1
      · exact this.2.2.1 h1
      · omega
end Go.Proofs.Ytbbljpkboojjhaa
