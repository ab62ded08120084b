/- The lengths by one tree: bounds, order, Kraft's sum. Plain. -/
import Derived.Test.YtbbljpkboojjhaaTreeD
namespace Go.Proofs.Ytbbljpkboojjhaa

/-- the things of the first k counts may be -/
theorem leaf_ok {cs : List Int} (hb : ∀ i, i < cs.length → 0 ≤ cs.getD i 0 ∧ cs.getD i 0 ≤ 4294967296) : ∀ k, k ≤ cs.length → ∃ W, TkOk (leafS cs k) ((leafS cs k).length : Int) cs.length (leafS cs k).length W ∧ 0 ≤ W ∧ W ≤ 4294967296 * (k : Int) ∧ ∀ t ∈ leafS cs k, t.ps.length = 1 ∧ t.ps.getD 0 0 < (k : Int)
  | 0, _ => ⟨0, ⟨by simp [leafS], by simp [leafS], by simp [leafS], rfl, rfl, by simp [leafS, cntL]⟩, by omega, by omega, by simp [leafS]⟩
  | k + 1, hk => by
    obtain ⟨W, h, h0, h1, h2⟩ := leaf_ok hb k (by omega)
    have hc := hb k (by omega)
    simp only [leafS]
    by_cases hp : 0 < cs.getD k 0
    · rw [if_pos hp]
      refine ⟨W + cs.getD k 0, ⟨fun t ht => ?_, fun t ht => ?_, fun t ht => ?_, ?_, ?_, fun s => ?_⟩, by omega, by omega, fun t ht => ?_⟩
      · rcases List.mem_append.1 ht with ht | ht
        · exact h.wt t ht
        · simp at ht; subst ht; exact hp
      · rcases List.mem_append.1 ht with ht | ht
        · have := h.nr t ht
          simp only [List.length_append, List.length_singleton]
          omega
        · simp at ht; subst ht
          simp only [List.length_append, List.length_singleton]
          omega
      · rcases List.mem_append.1 ht with ht | ht
        · exact h.ps t ht
        · simp at ht; subst ht
          refine ⟨by simp, fun p hp => ?_⟩
          simp at hp
          omega
      · have := h.bytes
        simp only [List.map_append, List.sum_append, List.map_cons, List.map_nil, List.sum_cons, List.sum_nil, List.length_append, List.length_singleton]
        omega
      · have := h.weight
        simp only [List.map_append, List.sum_append, List.map_cons, List.map_nil, List.sum_cons, List.sum_nil]
        omega
      · have g1 := h.once s
        simp only [List.map_append, cntL_append, List.map_cons, List.map_nil, cntL_cons]
        by_cases e : ((leafS cs k).length : Int) = s
        · have : cntL ((leafS cs k).map fun t => t.nr) s = 0 := by
            rcases Nat.eq_zero_or_pos (cntL ((leafS cs k).map fun t => t.nr) s) with h' | h'
            · exact h'
            · obtain ⟨t, ht, e'⟩ := List.mem_map.1 (cntL_pos.1 h')
              have := h.nr t ht
              have e' : t.nr = s := e'
              omega
          rw [this]
          simp [cntL, e]
        · rw [if_neg e]
          simp only [cntL, List.filter_nil, List.length_nil]
          exact g1
      · rcases List.mem_append.1 ht with ht | ht
        · have := h2 t ht; omega
        · simp at ht; subst ht
          simp; omega
    · rw [if_neg hp]
      exact ⟨W, h, h0, by omega, fun t ht => by have := h2 t ht; omega⟩

/-- counts as they may be handed to a tree -/
structure CsOk (cs : List Int) : Prop where
  len : cs.length ≤ 256
  bound : ∀ i, i < cs.length → 0 ≤ cs.getD i 0 ∧ cs.getD i 0 ≤ 4294967296
theorem CsOk.pool {cs : List Int} (h : CsOk cs) : PoolOk (leafS cs cs.length) ((leafS cs cs.length).length : Int) := by
  obtain ⟨W, hok, _⟩ := leaf_ok h.bound cs.length (Nat.le_refl _)
  have := leafS_le cs cs.length
  have := h.len
  exact hok.pool (by omega) (by omega)
theorem CsOk.run {cs : List Int} (h : CsOk cs) : Run (leafS cs cs.length) ((leafS cs cs.length).length : Int) (dS cs) := run_dep _ _ _ h.pool (by omega)
theorem CsOk.get {cs : List Int} (h : CsOk cs) {p : Nat} (hp : p < cs.length) : (treeS cs).getD p 0 = if 0 < cs.getD p 0 then (if (leafS cs cs.length).length = 1 then 1 else (dS cs (rk cs p) : Int)) else 0 := by
  obtain ⟨W, hok, _, _, hps⟩ := leaf_ok h.bound cs.length (Nat.le_refl _)
  have hle := leafS_le cs cs.length
  have hlen := h.len
  unfold treeS
  simp only
  by_cases h1 : (leafS cs cs.length).length = 1
  · rw [if_pos h1, if_pos h1]
    obtain ⟨t, ht⟩ : ∃ t, t = (leafS cs cs.length).getD 0 tk0 := ⟨_, rfl⟩
    have hm : t ∈ leafS cs cs.length := by rw [ht]; exact getD_tk (by omega)
    obtain ⟨q, hq, hc, e⟩ := leaf_of _ hm
    rw [← ht, e]
    simp only [List.getD_cons_zero, Int.toNat_natCast]
    by_cases e2 : q = p
    · subst e2
      rw [if_pos hc, List.getD_eq_getElem?_getD, List.getElem?_set_self (by simp; omega)]
      rfl
    · rw [List.getD_eq_getElem?_getD, List.getElem?_set_ne e2]
      have : ¬ 0 < cs.getD p 0 := fun hc2 => by
        have hm2 := leaf_mem hc2 cs.length hp
        obtain ⟨i, hi, e3⟩ := List.mem_iff_getElem.1 hm2
        obtain ⟨j, hj, e4⟩ := List.mem_iff_getElem.1 hm
        obtain rfl : i = 0 := by omega
        obtain rfl : j = 0 := by omega
        rw [e3] at e4
        rw [e] at e4
        injection e4 with _ _ e5
        injection e5 with e5 _
        omega
      rw [if_neg this]
      simp [hp]
  · rw [if_neg h1, if_neg h1]
    rw [treeN_get p _ _ _ _ _ _ _ hok (by omega) (by omega) (by omega) (by simp), leaf_sum]
    rw [show (List.replicate cs.length (0 : Int)).getD p 0 = 0 from by simp [List.getD_eq_getElem?_getD, hp]]
    rw [sumF_one (p := p) cs.length hp (fun i hi hn => by
      split
      · have : cntL [(i : Int)] (p : Int) = 0 := by rw [cntL_cons, if_neg (by omega)]; rfl
        rw [this]; simp
      · rfl)]
    split
    · rw [show cntL [(p : Int)] (p : Int) = 1 from by rw [cntL_cons, if_pos rfl]; rfl]
      simp [dS]
    · rfl

theorem Run.pos {l : List Tk} {nx : Int} {d : Int → Nat} (h : Run l nx d) : 2 ≤ l.length → ∀ t ∈ l, 1 ≤ d t.nr := by
  induction h with
  | done h _ => intro h2; omega
  | @step l nx d d' a b R hp ha hab hb hr hR hda hdb ih =>
    intro _ t ht
    have := hp.mem_iff.1 ht
    simp at this
    rcases this with rfl | rfl | h1
    · omega
    · omega
    · rw [hR t h1]
      refine ih ?_ t (by simp [h1])
      have := List.length_pos_of_mem h1
      simp; omega
/-- the least lies as deep as another one -/
theorem Run.twin {l : List Tk} {nx : Int} {d : Int → Nat} (h : Run l nx d) (ok : PoolOk l nx) (h2 : 2 ≤ l.length) : ∃ p ∈ l, ∃ q ∈ l, p.nr ≠ q.nr ∧ (∀ t ∈ l, keyK p ≤ keyK t) ∧ d p.nr = d q.nr := by
  cases h with
  | done h _ => omega
  | @step _ _ _ d' a b R hp ha hab hb hr hR hda hdb =>
    refine ⟨a, hp.mem_iff.2 (by simp), b, hp.mem_iff.2 (by simp), (others ok hp).1, fun t ht => ?_, by rw [hda, hdb]⟩
    have := hp.mem_iff.1 ht
    simp at this
    rcases this with rfl | rfl | h1
    · omega
    · exact hab
    · exact ha t h1
theorem Run.light {l : List Tk} {nx : Int} {d : Int → Nat} (h : Run l nx d) (ok : PoolOk l nx) (hW : sumT (fun t => t.wt) l ≤ 300) : ∀ t ∈ l, d t.nr ≤ 11 := fun t ht => by
  by_cases h2 : 2 ≤ l.length
  · obtain ⟨p, hp, q, hq, hne, hle, hd⟩ := h.twin ok h2
    have key : ∀ r ∈ l, p.nr ≠ r.nr → d r.nr ≤ 11 := fun r hr hn => by
      have h1 := h.fib ok p hp r hr hn hle
      have w1 := ok.wt p hp
      have w2 := ok.wt r hr
      by_cases h3 : d r.nr ≤ 11
      · exact h3
      · exfalso
        have f1 := fibS_up 12 (d r.nr) (by omega) (by omega)
        have f2 := fibS_up 13 (d r.nr + 1) (by omega) (by omega)
        rw [show fibS 12 = 144 from by decide] at f1
        rw [show fibS 13 = 233 from by decide] at f2
        have m1 := Int.mul_le_mul_of_nonneg_left (show (1 : Int) ≤ p.wt by omega) (show 0 ≤ fibS (d r.nr) by omega)
        have m2 := Int.mul_le_mul_of_nonneg_left (show (1 : Int) ≤ r.wt by omega) (show 0 ≤ fibS (d r.nr + 1) by omega)
        omega
    by_cases e : p.nr = t.nr
    · rw [← e, hd]; exact key q hq hne
    · exact key t ht e
  · cases h with
    | done h hd => rw [hd t ht]; omega
    | step hp ha hab hb hr hR hda hdb =>
      have := hp.length_eq
      simp only [List.length_cons] at this
      omega
theorem sumK_le {l : List Tk} {f : Tk → Nat} {M : Nat} (h : ∀ t ∈ l, f t ≤ M) : sumK f l ≤ M * l.length := by
  induction l with
  | nil => simp [sumK]
  | cons x l ih =>
    have := ih (fun t ht => h t (by simp [ht]))
    have := h x (by simp)
    rw [sumK_cons, List.length_cons, Nat.mul_add]
    omega
theorem Run.flat {l : List Tk} {nx : Int} {d : Int → Nat} (h : Run l nx d) (ok : PoolOk l nx) (hl : l.length ≤ 256) (hw : ∀ t ∈ l, t.wt ≤ 2) : ∀ t ∈ l, d t.nr ≤ 11 := fun t ht => by
  have hc : ∀ s ∈ l, ∀ x ∈ l, ∀ y ∈ l, x.nr ≠ y.nr → s.wt ≤ x.wt + y.wt := fun s hs x hx y hy _ => by
    have := hw s hs
    have := ok.wt x hx
    have := ok.wt y hy
    omega
  obtain ⟨_, C⟩ := h.order ok
  have hne : l ≠ [] := fun e => by rw [e] at ht; simp at ht
  have hk := h.kraft hne (d t.nr + 1) (fun r hr => C r hr t ht (hc t ht))
  have hle := sumK_le (l := l) (f := fun r => 2 ^ (d t.nr + 1 - d r.nr)) (M := 2 ^ 2) (fun r hr => Nat.pow_le_pow_right (by omega) (by have := C t ht r hr (hc r hr); omega))
  by_cases h3 : d t.nr ≤ 11
  · exact h3
  · exfalso
    have : (2 : Nat) ^ 12 ≤ 2 ^ (d t.nr + 1) := Nat.pow_le_pow_right (by omega) (by omega)
    omega

/-- in the list of lengths -/
theorem CsOk.flat {cs : List Int} (h : CsOk cs) (hw : ∀ i, i < cs.length → cs.getD i 0 ≤ 2) {p : Nat} (hp : p < cs.length) : (treeS cs).getD p 0 ≤ 11 := by
  rw [h.get hp]
  split
  · rename_i hc
    split
    · omega
    · have := h.run.flat h.pool (by have := leafS_le cs cs.length; have := h.len; omega) (fun t ht => by
        obtain ⟨q, hq, _, e⟩ := leaf_of _ ht
        rw [e]; exact hw q hq) _ (leaf_mem hc cs.length hp)
      have this : dS cs (rk cs p) ≤ 11 := this
      omega
  · omega
theorem CsOk.nonneg {cs : List Int} (h : CsOk cs) {p : Nat} (hp : p < cs.length) : 0 ≤ (treeS cs).getD p 0 := by
  rw [h.get hp]
  split
  · split <;> omega
  · omega
theorem CsOk.pos {cs : List Int} (h : CsOk cs) {p : Nat} (hp : p < cs.length) : 0 < (treeS cs).getD p 0 ↔ 0 < cs.getD p 0 := by
  rw [h.get hp]
  split
  · rename_i hc
    refine ⟨fun _ => hc, fun _ => ?_⟩
    split
    · omega
    · have h1 := leaf_mem hc cs.length hp
      have := List.length_pos_of_mem h1
      have := h.run.pos (by omega) _ h1
      have this : 1 ≤ dS cs (rk cs p) := this
      omega
  · rename_i hc
    exact ⟨fun h => by omega, fun h => absurd h hc⟩
theorem CsOk.order {cs : List Int} (h : CsOk cs) {p q : Nat} (hp : p < cs.length) (hq : q < cs.length) (h0 : 0 < cs.getD q 0) (hlt : cs.getD q 0 < cs.getD p 0) : (treeS cs).getD p 0 ≤ (treeS cs).getD q 0 := by
  have hc : 0 < cs.getD p 0 := by omega
  rw [h.get hp, h.get hq, if_pos hc, if_pos h0]
  split
  · omega
  · have m1 := leaf_mem hc cs.length hp
    have m2 := leaf_mem h0 cs.length hq
    have n1 := h.pool.nr _ m1
    have n2 := h.pool.nr _ m2
    have ht := h.pool.top
    have := (h.run.order h.pool).1 _ m1 _ m2 (by unfold keyK; simp only at n1 n2 ⊢; omega)
    have this : dS cs (rk cs p) ≤ dS cs (rk cs q) := this
    omega
theorem CsOk.light {cs : List Int} (h : CsOk cs) (hs : sumF (fun p => if 0 < cs.getD p 0 then cs.getD p 0 else 0) cs.length ≤ 300) {p : Nat} (hp : p < cs.length) : (treeS cs).getD p 0 ≤ 11 := by
  rw [h.get hp]
  split
  · rename_i hc
    split
    · omega
    · have := h.run.light h.pool (by rw [leaf_sum]; exact hs) _ (leaf_mem hc cs.length hp)
      have this : dS cs (rk cs p) ≤ 11 := this
      omega
  · omega
end Go.Proofs.Ytbbljpkboojjhaa
