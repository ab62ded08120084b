/- The tree of things: plain definitions and laws. -/
import Derived.Test.YtbbljpkboojjhaaThLaw
namespace Go.Proofs.Ytbbljpkboojjhaa

/-- some bytes, with a weight, that came as the n-th -/
structure Tk where
  wt : Int
  nr : Int
  ps : List Int
instance : Inhabited Tk := ⟨⟨0, 0, []⟩⟩
def keyK (t : Tk) : Int := t.wt * 1024 + t.nr
def tk0 : Tk := ⟨0, 0, []⟩
/-- the place of the least of the first k (of one at least) -/
def leastK (l : List Tk) : Nat → Nat
  | 0 => 0
  | 1 => 0
  | k + 2 => if keyK (l.getD (k + 1) tk0) < keyK (l.getD (leastK l (k + 1)) tk0) then k + 1 else leastK l (k + 1)
def leastT (l : List Tk) : Nat := leastK l l.length
theorem leastK_lt (l : List Tk) : ∀ k, 0 < k → leastK l k < k
  | 1, _ => by simp [leastK]
  | k + 2, _ => by
    have := leastK_lt l (k + 1) (by omega)
    simp only [leastK]
    split <;> omega
theorem leastK_min (l : List Tk) : ∀ k i, i < k → keyK (l.getD (leastK l k) tk0) ≤ keyK (l.getD i tk0)
  | 1, i, h => by
    obtain rfl : i = 0 := by omega
    simp [leastK]
  | k + 2, i, h => by
    simp only [leastK]
    by_cases e : i = k + 1
    · subst e
      split <;> omega
    · have := leastK_min l (k + 1) i (by omega)
      split <;> omega
theorem leastT_lt {l : List Tk} (h : 0 < l.length) : leastT l < l.length := leastK_lt l _ h
theorem leastT_min (l : List Tk) : ∀ t ∈ l, keyK (l.getD (leastT l) tk0) ≤ keyK t := fun t ht => by
  obtain ⟨i, hi, rfl⟩ := List.mem_iff_getElem.1 ht
  have := leastK_min l l.length i hi
  rw [show l.getD i tk0 = l[i] from by rw [List.getD_eq_getElem?_getD, List.getElem?_eq_getElem hi]; rfl] at this
  exact this

/-- one more for each of some bytes -/
def bumpS : List Int → List Int → List Int
  | o, [] => o
  | o, p :: ps => bumpS (o.set p.toNat (o.getD p.toNat 0 + 1)) ps
theorem bumpS_append (o a b : List Int) : bumpS o (a ++ b) = bumpS (bumpS o a) b := by
  induction a generalizing o with
  | nil => rfl
  | cons p a ih => simp only [List.cons_append, bumpS]; exact ih _
theorem bumpS_length : ∀ (ps o : List Int), (bumpS o ps).length = o.length
  | [], o => rfl
  | p :: ps, o => by simp only [bumpS]; rw [bumpS_length ps]; simp
theorem bumpS_take {o ps : List Int} {k : Nat} (h : k < ps.length) : bumpS o (ps.take (k + 1)) = (bumpS o (ps.take k)).set (ps.getD k 0).toNat ((bumpS o (ps.take k)).getD (ps.getD k 0).toNat 0 + 1) := by
  rw [List.take_add_one, List.getElem?_eq_getElem h, bumpS_append, List.getD_eq_getElem?_getD, List.getElem?_eq_getElem h]
  rfl
/-- no less than none, and grown by one a step at most -/
theorem bumpS_bound : ∀ (ps o : List Int) (M : Int), (∀ z ∈ o, 0 ≤ z ∧ z ≤ M) → 0 ≤ M → ∀ z ∈ bumpS o ps, 0 ≤ z ∧ z ≤ M + ps.length
  | [], o, M, h, h0, z, hz => by have := h z hz; simp; omega
  | p :: ps, o, M, h, h0, z, hz => by
    have hb : ∀ z ∈ o.set p.toNat (o.getD p.toNat 0 + 1), 0 ≤ z ∧ z ≤ M + 1 := fun z hz => by
      rcases List.mem_or_eq_of_mem_set hz with h1 | rfl
      · have := h z h1; omega
      · by_cases hl : p.toNat < o.length
        · have := h _ (getD_in hl); omega
        · rw [List.getD_eq_getElem?_getD, List.getElem?_eq_none (by omega)]
          simp; omega
    have := bumpS_bound ps _ (M + 1) hb (by omega) z hz
    rw [List.length_cons]
    omega

/-- the two least become one -/
def stepT (l : List Tk) (nx : Int) : List Tk × List Int :=
  let a := l.getD (leastT l) tk0
  let l1 := l.eraseIdx (leastT l)
  let b := l1.getD (leastT l1) tk0
  (l1.eraseIdx (leastT l1) ++ [⟨a.wt + b.wt, nx, a.ps ++ b.ps⟩], a.ps ++ b.ps)
def treeN : Nat → List Tk → List Int → Int → List Int
  | 0, _, o, _ => o
  | f + 1, l, o, nx => if l.length ≤ 1 then o else treeN f (stepT l nx).1 (bumpS o (stepT l nx).2) (nx + 1)
/-- the things of the first k counts -/
def leafS (cs : List Int) : Nat → List Tk
  | 0 => []
  | k + 1 => if 0 < cs.getD k 0 then leafS cs k ++ [⟨cs.getD k 0, ((leafS cs k).length : Int), [(k : Int)]⟩] else leafS cs k
/-- the lengths by one tree -/
def treeS (cs : List Int) : List Int :=
  let l := leafS cs cs.length
  if l.length = 1 then (List.replicate cs.length 0).set ((l.getD 0 tk0).ps.getD 0 0).toNat 1
  else treeN l.length l (List.replicate cs.length 0) (l.length : Int)

theorem stepT_length {l : List Tk} (nx : Int) (h : 2 ≤ l.length) : (stepT l nx).1.length + 1 = l.length := by
  have h1 := leastT_lt (l := l) (by omega)
  have e1 : (l.eraseIdx (leastT l)).length = l.length - 1 := by rw [List.length_eraseIdx]; simp [h1]
  have h2 := leastT_lt (l := l.eraseIdx (leastT l)) (by omega)
  unfold stepT
  simp only [List.length_append, List.length_singleton]
  rw [List.length_eraseIdx, if_pos h2, e1]
  omega
theorem leafS_le (cs : List Int) : ∀ k, (leafS cs k).length ≤ k
  | 0 => by simp [leafS]
  | k + 1 => by
    have := leafS_le cs k
    simp only [leafS]
    split
    · simp; omega
    · omega
/-- what is true of all things on the way: F bytes in all, below N; W of weight in all; numbers below nx, each once -/
structure TkOk (l : List Tk) (nx : Int) (N F : Nat) (W : Int) : Prop where
  wt : ∀ t ∈ l, 0 < t.wt
  nr : ∀ t ∈ l, 0 ≤ t.nr ∧ t.nr < nx
  ps : ∀ t ∈ l, 0 < t.ps.length ∧ ∀ p ∈ t.ps, 0 ≤ p ∧ p < (N : Int)
  bytes : (l.map fun t => t.ps.length).sum = F
  weight : (l.map fun t => t.wt).sum = W
  once : ∀ s, cntL (l.map fun t => t.nr) s ≤ 1
theorem map_erase_cnt (l : List Tk) : ∀ (i : Nat), i < l.length → ∀ s, cntL ((l.eraseIdx i).map fun t => t.nr) s + (if (l.getD i tk0).nr = s then 1 else 0) = cntL (l.map fun t => t.nr) s := by
  induction l with
  | nil => intro i h; simp at h
  | cons x l ih =>
    intro i h s
    cases i with
    | zero => simp only [List.eraseIdx_cons_zero, List.getD_cons_zero, List.map_cons, cntL_cons]; omega
    | succ i =>
      have := ih i (by simpa using h) s
      simp only [List.eraseIdx_cons_succ, List.getD_cons_succ, List.map_cons, cntL_cons]
      omega
theorem map_erase_sum (f : Tk → Int) (l : List Tk) : ∀ (i : Nat), i < l.length → ((l.eraseIdx i).map f).sum + f (l.getD i tk0) = (l.map f).sum := by
  induction l with
  | nil => intro i h; simp at h
  | cons x l ih =>
    intro i h
    cases i with
    | zero => simp only [List.eraseIdx_cons_zero, List.getD_cons_zero, List.map_cons, List.sum_cons]; omega
    | succ i =>
      have := ih i (by simpa using h)
      simp only [List.eraseIdx_cons_succ, List.getD_cons_succ, List.map_cons, List.sum_cons]
      omega
theorem map_erase_sumN (f : Tk → Nat) (l : List Tk) : ∀ (i : Nat), i < l.length → ((l.eraseIdx i).map f).sum + f (l.getD i tk0) = (l.map f).sum := by
  induction l with
  | nil => intro i h; simp at h
  | cons x l ih =>
    intro i h
    cases i with
    | zero => simp only [List.eraseIdx_cons_zero, List.getD_cons_zero, List.map_cons, List.sum_cons]; omega
    | succ i =>
      have := ih i (by simpa using h)
      simp only [List.eraseIdx_cons_succ, List.getD_cons_succ, List.map_cons, List.sum_cons]
      omega
theorem getD_tk {l : List Tk} {i : Nat} (h : i < l.length) : l.getD i tk0 ∈ l := by
  rw [List.getD_eq_getElem?_getD, List.getElem?_eq_getElem h]; exact List.getElem_mem _
theorem TkOk.erase {l : List Tk} {nx : Int} {N F : Nat} {W : Int} (h : TkOk l nx N F W) {i : Nat} (hi : i < l.length) : TkOk (l.eraseIdx i) nx N (F - (l.getD i tk0).ps.length) (W - (l.getD i tk0).wt) := by
  have hm : ∀ t ∈ l.eraseIdx i, t ∈ l := fun t ht => List.mem_of_mem_eraseIdx ht
  refine ⟨fun t ht => h.wt t (hm t ht), fun t ht => h.nr t (hm t ht), fun t ht => h.ps t (hm t ht), ?_, ?_, fun s => ?_⟩
  · have := map_erase_sumN (fun t => t.ps.length) l i hi
    have := h.bytes
    omega
  · have := map_erase_sum (fun t => t.wt) l i hi
    have := h.weight
    omega
  · have := map_erase_cnt l i hi s
    have := h.once s
    omega
theorem TkOk.step {l : List Tk} {nx : Int} {N F : Nat} {W : Int} (h : TkOk l nx N F W) (h0 : 0 ≤ nx) (h2 : 2 ≤ l.length) : TkOk (stepT l nx).1 (nx + 1) N F W ∧ (∀ p ∈ (stepT l nx).2, 0 ≤ p ∧ p < (N : Int)) ∧ (stepT l nx).2.length ≤ F := by
  have h1 := leastT_lt (l := l) (by omega)
  have e1 : (l.eraseIdx (leastT l)).length = l.length - 1 := by rw [List.length_eraseIdx]; simp [h1]
  have h3 := leastT_lt (l := l.eraseIdx (leastT l)) (by omega)
  have k1 := h.erase h1
  have k2 := k1.erase h3
  obtain ⟨a, ha⟩ : ∃ a, a = l.getD (leastT l) tk0 := ⟨_, rfl⟩
  obtain ⟨l1, hl1⟩ : ∃ l1, l1 = l.eraseIdx (leastT l) := ⟨_, rfl⟩
  rw [← hl1] at e1 h3 k1 k2
  rw [← ha] at k1 k2
  obtain ⟨b, hb⟩ : ∃ b, b = l1.getD (leastT l1) tk0 := ⟨_, rfl⟩
  obtain ⟨l2, hl2⟩ : ∃ l2, l2 = l1.eraseIdx (leastT l1) := ⟨_, rfl⟩
  rw [← hl2] at k2
  rw [← hb] at k2
  have hal : a ∈ l := by rw [ha]; exact getD_tk h1
  have hbl : b ∈ l1 := by rw [hb]; exact getD_tk h3
  have hst : stepT l nx = (l2 ++ [⟨a.wt + b.wt, nx, a.ps ++ b.ps⟩], a.ps ++ b.ps) := by rw [hl2, hb, hl1, ha]; rfl
  have hbytes := map_erase_sumN (fun t => t.ps.length) l (leastT l) h1
  have hbytes1 := map_erase_sumN (fun t => t.ps.length) l1 (leastT l1) h3
  have hF := h.bytes
  rw [← ha, ← hl1] at hbytes
  rw [← hb, ← hl2] at hbytes1
  have hpa := h.ps a hal
  have hpb := k1.ps b hbl
  have hwa := h.wt a hal
  have hwb := k1.wt b hbl
  rw [hst]
  refine ⟨⟨fun t ht => ?_, fun t ht => ?_, fun t ht => ?_, ?_, ?_, fun s => ?_⟩, fun p hp => ?_, by simp only [List.length_append]; omega⟩
  · rcases List.mem_append.1 ht with ht | ht
    · exact k2.wt t ht
    · simp at ht; subst ht; show 0 < a.wt + b.wt; omega
  · rcases List.mem_append.1 ht with ht | ht
    · have := k2.nr t ht; omega
    · simp at ht; subst ht; exact ⟨h0, by show nx < nx + 1; omega⟩
  · rcases List.mem_append.1 ht with ht | ht
    · exact k2.ps t ht
    · simp at ht; subst ht
      refine ⟨by simp only [List.length_append]; omega, fun p hp => ?_⟩
      rcases List.mem_append.1 hp with hp | hp
      · exact hpa.2 p hp
      · exact hpb.2 p hp
  · have := k2.bytes
    simp only [List.map_append, List.sum_append, List.map_cons, List.map_nil, List.sum_cons, List.sum_nil, List.length_append]
    omega
  · have := k2.weight
    simp only [List.map_append, List.sum_append, List.map_cons, List.map_nil, List.sum_cons, List.sum_nil]
    omega
  · have g1 := k2.once s
    simp only [List.map_append, cntL_append, List.map_cons, List.map_nil, cntL_cons]
    by_cases e : nx = s
    · subst e
      have : cntL (l2.map fun t => t.nr) nx = 0 := by
        rcases Nat.eq_zero_or_pos (cntL (l2.map fun t => t.nr) nx) with h' | h'
        · exact h'
        · obtain ⟨t, ht, e⟩ := List.mem_map.1 (cntL_pos.1 h')
          have := k2.nr t ht
          omega
      rw [this]
      simp [cntL]
    · rw [if_neg e]
      simp only [cntL, List.filter_nil, List.length_nil]
      exact g1
  · rcases List.mem_append.1 hp with hp | hp
    · exact hpa.2 p hp
    · exact hpb.2 p hp
end Go.Proofs.Ytbbljpkboojjhaa
