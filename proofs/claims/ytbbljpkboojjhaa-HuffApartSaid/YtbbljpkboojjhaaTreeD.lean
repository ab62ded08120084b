/- The tree's depths are the lengths. Plain. -/
import Derived.Test.YtbbljpkboojjhaaTreeO
namespace Go.Proofs.Ytbbljpkboojjhaa

theorem erase_perm (l : List Tk) : ∀ i, i < l.length → l.Perm (l.getD i tk0 :: l.eraseIdx i) := by
  induction l with
  | nil => intro i h; simp at h
  | cons x l ih =>
    intro i h
    cases i with
    | zero => simp
    | succ i =>
      have := ih i (by simpa using h)
      simp only [List.getD_cons_succ, List.eraseIdx_cons_succ]
      exact (this.cons x).trans (List.Perm.swap _ _ _)
theorem TkOk.pool {l : List Tk} {nx : Int} {N F : Nat} {W : Int} (h : TkOk l nx N F W) (h0 : 0 ≤ nx) (hx : nx + (l.length : Int) ≤ 1024) : PoolOk l nx := by
  refine ⟨h.wt, h.nr, ?_, hx, h0⟩
  have ho := h.once
  clear h hx
  induction l with
  | nil => exact List.Pairwise.nil
  | cons x l ih =>
    rw [List.pairwise_cons]
    refine ⟨fun t ht e => ?_, ih fun s => ?_⟩
    · have h1 := ho x.nr
      rw [List.map_cons, cntL_cons, if_pos rfl] at h1
      have : 0 < cntL (l.map fun t => t.nr) x.nr := cntL_pos.2 (List.mem_map.2 ⟨t, ht, e.symm⟩)
      omega
    · have h1 := ho s
      rw [List.map_cons, cntL_cons] at h1
      omega

def dep : Nat → List Tk → Int → Int → Nat
  | 0, _, _, _ => 0
  | f + 1, l, nx, n => if l.length ≤ 1 then 0 else
    if n = (l.getD (leastT l) tk0).nr ∨ n = ((l.eraseIdx (leastT l)).getD (leastT (l.eraseIdx (leastT l))) tk0).nr then dep f (stepT l nx).1 (nx + 1) nx + 1 else dep f (stepT l nx).1 (nx + 1) n

/-- what one step does, with names -/
theorem step_names {l : List Tk} (nx : Int) (h2 : 2 ≤ l.length) : ∃ (a b : Tk) (R : List Tk), a = l.getD (leastT l) tk0 ∧ b = (l.eraseIdx (leastT l)).getD (leastT (l.eraseIdx (leastT l))) tk0 ∧
    l.Perm (a :: b :: R) ∧ (∀ t ∈ R, keyK a ≤ keyK t) ∧ keyK a ≤ keyK b ∧ (∀ t ∈ R, keyK b ≤ keyK t) ∧ stepT l nx = (R ++ [⟨a.wt + b.wt, nx, a.ps ++ b.ps⟩], a.ps ++ b.ps) := by
  have h1 := leastT_lt (l := l) (by omega)
  obtain ⟨l1, hl1⟩ : ∃ l1, l1 = l.eraseIdx (leastT l) := ⟨_, rfl⟩
  have e1 : l1.length + 1 = l.length := by rw [hl1, List.length_eraseIdx, if_pos h1]; omega
  have h3 := leastT_lt (l := l1) (by omega)
  have p1 := erase_perm l _ h1
  rw [← hl1] at p1
  have p2 := erase_perm l1 _ h3
  have m1 := leastT_min l
  have m2 := leastT_min l1
  refine ⟨_, _, l1.eraseIdx (leastT l1), rfl, by rw [← hl1], ?_, ?_, ?_, ?_, ?_⟩
  · exact p1.trans (p2.cons _)
  · exact fun t ht => m1 t (p1.mem_iff.2 (by simp [p2.mem_iff.2 (List.mem_cons_of_mem _ ht)]))
  · exact m1 _ (p1.mem_iff.2 (List.mem_cons_of_mem _ (getD_tk h3)))
  · exact fun t ht => m2 t (List.mem_of_mem_eraseIdx ht)
  · rw [hl1]; rfl

theorem run_dep : ∀ (f : Nat) (l : List Tk) (nx : Int), PoolOk l nx → l.length ≤ f + 1 → Run l nx (dep f l nx)
  | 0, l, nx, _, h => .done (by omega) (fun _ _ => rfl)
  | f + 1, l, nx, ok, h => by
    by_cases h2 : l.length ≤ 1
    · exact .done h2 (fun t _ => by simp [dep, h2])
    · obtain ⟨a, b, R, ea, eb, hp, ha, hab, hb, hs⟩ := step_names (l := l) nx (by omega)
      obtain ⟨hne, ho⟩ := others ok hp
      have hl := hp.length_eq
      simp only [List.length_cons] at hl
      refine .step (d' := dep f (stepT l nx).1 (nx + 1)) hp ha hab hb ?_ (fun t ht => ?_) ?_ ?_
      · rw [hs]
        exact run_dep f _ _ (ok.perm hp).step (by simp; omega)
      · simp only [dep]
        rw [if_neg h2, ← ea, ← eb, if_neg (by rintro (h | h); exact (ho t ht).1 h; exact (ho t ht).2 h)]
      · simp only [dep]
        rw [if_neg h2, ← ea, ← eb, if_pos (.inl rfl)]
      · simp only [dep]
        rw [if_neg h2, ← ea, ← eb, if_pos (.inr rfl)]

theorem bumpS_get (p : Nat) : ∀ (ps o : List Int), (∀ q ∈ ps, 0 ≤ q ∧ q < (o.length : Int)) → (bumpS o ps).getD p 0 = o.getD p 0 + (cntL ps (p : Int) : Int)
  | [], o, _ => by simp [bumpS, cntL]
  | q :: ps, o, h => by
    have hq := h q (by simp)
    have := bumpS_get p ps (o.set q.toNat (o.getD q.toNat 0 + 1)) (fun r hr => by have := h r (by simp [hr]); simp; omega)
    simp only [bumpS]
    rw [this, cntL_cons]
    by_cases e : q = (p : Int)
    · have e' : q.toNat = p := by omega
      rw [if_pos e, e', List.getD_eq_getElem?_getD, List.getElem?_set_self (by omega)]
      simp
      omega
    · rw [if_neg e, show (o.set q.toNat (o.getD q.toNat 0 + 1)).getD p 0 = o.getD p 0 from by rw [List.getD_eq_getElem?_getD, List.getElem?_set_ne (by omega), ← List.getD_eq_getElem?_getD]]
      omega

theorem treeN_length : ∀ (f : Nat) (l : List Tk) (o : List Int) (nx : Int), (treeN f l o nx).length = o.length
  | 0, _, _, _ => rfl
  | f + 1, l, o, nx => by
    simp only [treeN]
    split
    · rfl
    · rw [treeN_length f, bumpS_length]
theorem treeN_get (p : Nat) : ∀ (f : Nat) (l : List Tk) (o : List Int) (nx : Int) (N F : Nat) (W : Int), TkOk l nx N F W → 0 ≤ nx → nx + (l.length : Int) ≤ 1024 → l.length ≤ f + 1 → o.length = N →
    (treeN f l o nx).getD p 0 = o.getD p 0 + sumT (fun t => (cntL t.ps (p : Int) : Int) * (dep f l nx t.nr : Int)) l
  | 0, l, o, nx, N, F, W, _, _, _, _, _ => by
    have : sumT (fun t => (cntL t.ps (p : Int) : Int) * (dep 0 l nx t.nr : Int)) l = sumT (fun _ => 0) l := sumT_congr (fun t _ => by simp [dep])
    rw [this]
    simp only [treeN]
    have : ∀ l : List Tk, sumT (fun _ => (0 : Int)) l = 0 := fun l => by induction l with | nil => rfl | cons x l ih => rw [sumT_cons, ih]; rfl
    rw [this]; omega
  | f + 1, l, o, nx, N, F, W, ok, h0, hx, hf, ho => by
    have hz : ∀ l : List Tk, sumT (fun _ => (0 : Int)) l = 0 := fun l => by induction l with | nil => rfl | cons x l ih => rw [sumT_cons, ih]; rfl
    simp only [treeN]
    by_cases h2 : l.length ≤ 1
    · rw [if_pos h2]
      have : sumT (fun t => (cntL t.ps (p : Int) : Int) * (dep (f + 1) l nx t.nr : Int)) l = sumT (fun _ => 0) l := sumT_congr (fun t _ => by simp [dep, h2])
      rw [this, hz]; omega
    · rw [if_neg h2]
      obtain ⟨hok', hps, _⟩ := ok.step h0 (by omega)
      have hpool := ok.pool h0 hx
      obtain ⟨a, b, R, ea, eb, hp, ha, hab, hb, hs⟩ := step_names (l := l) nx (by omega)
      obtain ⟨hne, hoth⟩ := others hpool hp
      have hl := hp.length_eq
      simp only [List.length_cons] at hl
      rw [hs] at hok' hps
      have ih := treeN_get p f (R ++ [⟨a.wt + b.wt, nx, a.ps ++ b.ps⟩]) (bumpS o (a.ps ++ b.ps)) (nx + 1) N F W hok' (by omega) (by simp only [List.length_append, List.length_singleton]; omega) (by simp; omega) (by rw [bumpS_length]; exact ho)
      rw [hs]
      simp only at hps ih ⊢
      rw [ih, bumpS_get p _ _ (by rw [ho]; exact hps), cntL_append, sumT_append, sumT_cons, sumT_nil, sumT_perm _ hp, sumT_cons, sumT_cons]
      have da : dep (f + 1) l nx a.nr = dep f (R ++ [⟨a.wt + b.wt, nx, a.ps ++ b.ps⟩]) (nx + 1) nx + 1 := by
        simp only [dep]
        rw [if_neg h2, ← ea, ← eb, if_pos (.inl rfl), hs]
      have db : dep (f + 1) l nx b.nr = dep f (R ++ [⟨a.wt + b.wt, nx, a.ps ++ b.ps⟩]) (nx + 1) nx + 1 := by
        simp only [dep]
        rw [if_neg h2, ← ea, ← eb, if_pos (.inr rfl), hs]
      have dR : ∀ t ∈ R, dep (f + 1) l nx t.nr = dep f (R ++ [⟨a.wt + b.wt, nx, a.ps ++ b.ps⟩]) (nx + 1) t.nr := fun t ht => by
        simp only [dep]
        rw [if_neg h2, ← ea, ← eb, if_neg (by rintro (h | h); exact (hoth t ht).1 h; exact (hoth t ht).2 h), hs]
      rw [da, db, sumT_congr (fun t ht => by rw [dR t ht] : ∀ t ∈ R, (cntL t.ps (p : Int) : Int) * (dep (f + 1) l nx t.nr : Int) = (cntL t.ps (p : Int) : Int) * (dep f (R ++ [⟨a.wt + b.wt, nx, a.ps ++ b.ps⟩]) (nx + 1) t.nr : Int))]
      simp only [cntL_append, Int.natCast_add, Int.mul_add, Int.add_mul, Int.natCast_one, Int.mul_one]
      omega

/-- how many counts below p stand -/
def rk (cs : List Int) (p : Nat) : Int := ((leafS cs p).length : Int)
theorem leaf_mem {cs : List Int} {p : Nat} (h : 0 < cs.getD p 0) : ∀ k, p < k → (⟨cs.getD p 0, rk cs p, [(p : Int)]⟩ : Tk) ∈ leafS cs k
  | 0, hk => by omega
  | k + 1, hk => by
    simp only [leafS]
    by_cases e : p = k
    · subst e
      rw [if_pos h]
      exact List.mem_append_right _ (by simp [rk])
    · have := leaf_mem h k (by omega)
      split
      · exact List.mem_append_left _ this
      · exact this
theorem leaf_of {cs : List Int} {t : Tk} : ∀ k, t ∈ leafS cs k → ∃ p, p < k ∧ 0 < cs.getD p 0 ∧ t = ⟨cs.getD p 0, rk cs p, [(p : Int)]⟩
  | 0, h => by simp [leafS] at h
  | k + 1, h => by
    simp only [leafS] at h
    split at h
    · rename_i hp
      rcases List.mem_append.1 h with h | h
      · obtain ⟨p, h1, h2, h3⟩ := leaf_of k h
        exact ⟨p, by omega, h2, h3⟩
      · simp at h
        exact ⟨k, by omega, hp, h⟩
    · obtain ⟨p, h1, h2, h3⟩ := leaf_of k h
      exact ⟨p, by omega, h2, h3⟩
/-- the things are in the order of their numbers -/
theorem leaf_self {cs : List Int} {t : Tk} : ∀ k, t ∈ leafS cs k → (leafS cs k).getD t.nr.toNat tk0 = t ∧ t.nr.toNat < (leafS cs k).length
  | 0, h => by simp [leafS] at h
  | k + 1, h => by
    simp only [leafS] at h ⊢
    split at h
    · rename_i hp
      rw [if_pos hp]
      rcases List.mem_append.1 h with h | h
      · obtain ⟨h1, h2⟩ := leaf_self k h
        refine ⟨?_, by simp; omega⟩
        rw [List.getD_eq_getElem?_getD, List.getElem?_append_left h2, ← List.getD_eq_getElem?_getD]
        exact h1
      · simp at h
        subst h
        refine ⟨?_, by simp⟩
        simp only [Int.toNat_natCast]
        rw [List.getD_eq_getElem?_getD, List.getElem?_append_right (Nat.le_refl _)]
        simp
    · rename_i hp
      rw [if_neg hp]
      exact leaf_self k h
def sumF (f : Nat → Int) : Nat → Int
  | 0 => 0
  | k + 1 => sumF f k + f k
theorem sumF_congr {f g : Nat → Int} : ∀ k, (∀ i, i < k → f i = g i) → sumF f k = sumF g k
  | 0, _ => rfl
  | k + 1, h => by simp only [sumF]; rw [sumF_congr k (fun i hi => h i (by omega)), h k (by omega)]
theorem leaf_sum (cs : List Int) (G : Tk → Int) : ∀ k, sumT G (leafS cs k) = sumF (fun p => if 0 < cs.getD p 0 then G ⟨cs.getD p 0, rk cs p, [(p : Int)]⟩ else 0) k
  | 0 => rfl
  | k + 1 => by
    simp only [leafS, sumF]
    rw [← leaf_sum cs G k]
    split
    · rw [sumT_append, sumT_cons, sumT_nil]
      simp [rk]
    · omega
theorem sumF_one {f : Nat → Int} {p : Nat} : ∀ k, p < k → (∀ i, i < k → i ≠ p → f i = 0) → sumF f k = f p
  | 0, h, _ => by omega
  | k + 1, h, hf => by
    simp only [sumF]
    by_cases e : p = k
    · subst e
      rw [sumF_congr (g := fun _ => 0) p (fun i hi => hf i (by omega) (by omega))]
      have : ∀ k, sumF (fun _ => 0) k = 0 := fun k => by induction k with | zero => rfl | succ k ih => simp only [sumF]; rw [ih]; rfl
      rw [this]; omega
    · rw [sumF_one k (by omega) (fun i hi hp => hf i (by omega) hp), hf k (by omega) (fun h => e h.symm)]
      omega

/-- the depths of the things of the counts -/
def dS (cs : List Int) : Int → Nat := dep (leafS cs cs.length).length (leafS cs cs.length) ((leafS cs cs.length).length : Int)
def oneS (cs : List Int) : Bool := decide ((leafS cs cs.length).length = 1)

theorem treeS_length (cs : List Int) : (treeS cs).length = cs.length := by
  unfold treeS
  simp only
  split
  · simp
  · rw [treeN_length]; simp
end Go.Proofs.Ytbbljpkboojjhaa
