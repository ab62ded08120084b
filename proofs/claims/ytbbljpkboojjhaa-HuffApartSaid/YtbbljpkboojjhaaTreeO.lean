/- No lengths are better. Plain. -/
import Derived.Test.YtbbljpkboojjhaaTreeP
namespace Go.Proofs.Ytbbljpkboojjhaa

theorem mem_perm {l : List Tk} {u : Tk} (h : u ∈ l) : ∃ m, l.Perm (u :: m) := by
  obtain ⟨s, t, rfl⟩ := List.append_of_mem h
  exact ⟨s ++ t, List.perm_middle⟩
theorem mem_perm2 {l : List Tk} {u y : Tk} (hu : u ∈ l) (hy : y ∈ l) (hne : u.nr ≠ y.nr) : ∃ m, l.Perm (u :: y :: m) := by
  obtain ⟨m, hm⟩ := mem_perm hu
  have h1 := hm.mem_iff.1 hy
  rcases List.mem_cons.1 h1 with h1 | h1
  · rw [h1] at hne; exact absurd rfl hne
  · obtain ⟨m', hm'⟩ := mem_perm h1
    exact ⟨m', hm.trans (hm'.cons u)⟩

def cost (e : Int → Nat) (l : List Tk) : Int := sumT (fun t => t.wt * (e t.nr : Int)) l
def kraftE (E : Nat) (e : Int → Nat) (l : List Tk) : Nat := sumK (fun t => 2 ^ (E - e t.nr)) l
def updE (e : Int → Nat) (n : Int) (v : Nat) : Int → Nat := fun m => if m = n then v else e m
def swapE (e : Int → Nat) (u y : Int) : Int → Nat := fun m => if m = u then e y else if m = y then e u else e m

theorem others {l m : List Tk} {nx : Int} {u y : Tk} (ok : PoolOk l nx) (hp : l.Perm (u :: y :: m)) : u.nr ≠ y.nr ∧ ∀ t ∈ m, t.nr ≠ u.nr ∧ t.nr ≠ y.nr := by
  have := (ok.perm hp).once
  simp only [List.pairwise_cons] at this
  exact ⟨this.1 y (by simp), fun t ht => ⟨fun e => this.1 t (by simp [ht]) e.symm, fun e => this.2.1 t ht e.symm⟩⟩
theorem others1 {l m : List Tk} {nx : Int} {u : Tk} (ok : PoolOk l nx) (hp : l.Perm (u :: m)) : ∀ t ∈ m, t.nr ≠ u.nr := by
  have := (ok.perm hp).once
  simp only [List.pairwise_cons] at this
  exact fun t ht e => this.1 t ht e.symm

theorem swap_good {l : List Tk} {nx : Int} {e : Int → Nat} {E : Nat} {u y : Tk} (ok : PoolOk l nx) (hu : u ∈ l) (hy : y ∈ l) (hne : u.nr ≠ y.nr) (hw : u.wt ≤ y.wt) (he : e u.nr ≤ e y.nr) (hE : ∀ t ∈ l, e t.nr ≤ E) :
    cost (swapE e u.nr y.nr) l ≤ cost e l ∧ kraftE E (swapE e u.nr y.nr) l = kraftE E e l ∧ (∀ t ∈ l, swapE e u.nr y.nr t.nr ≤ E) := by
  obtain ⟨m, hm⟩ := mem_perm2 hu hy hne
  obtain ⟨_, ho⟩ := others ok hm
  have s1 : swapE e u.nr y.nr u.nr = e y.nr := by simp [swapE]
  have hne' : ¬ y.nr = u.nr := fun h => hne h.symm
  have s2 : swapE e u.nr y.nr y.nr = e u.nr := by simp [swapE, hne']
  have s3 : ∀ t ∈ m, swapE e u.nr y.nr t.nr = e t.nr := fun t ht => by simp [swapE, (ho t ht).1, (ho t ht).2]
  refine ⟨?_, ?_, fun t ht => ?_⟩
  · unfold cost
    rw [sumT_perm _ hm, sumT_perm _ hm, sumT_cons, sumT_cons, sumT_cons, sumT_cons, s1, s2, sumT_congr (fun t ht => by rw [s3 t ht] : ∀ t ∈ m, t.wt * (swapE e u.nr y.nr t.nr : Int) = t.wt * (e t.nr : Int))]
    have h1 := Int.mul_nonneg (show (0 : Int) ≤ y.wt - u.wt by omega) (show (0 : Int) ≤ (e y.nr : Int) - (e u.nr : Int) by omega)
    simp only [Int.sub_mul, Int.mul_sub] at h1
    omega
  · unfold kraftE
    rw [sumK_perm _ hm, sumK_perm _ hm, sumK_cons, sumK_cons, sumK_cons, sumK_cons, s1, s2, sumK_congr (fun t ht => by rw [s3 t ht] : ∀ t ∈ m, 2 ^ (E - swapE e u.nr y.nr t.nr) = 2 ^ (E - e t.nr))]
    omega
  · unfold swapE
    split
    · exact hE y hy
    · split
      · exact hE u hu
      · exact hE t ht

theorem sumK_pos {l : List Tk} {f : Tk → Nat} (h : ∀ t ∈ l, 1 ≤ f t) : l.length ≤ sumK f l := by
  induction l with
  | nil => simp
  | cons x l ih =>
    have := ih (fun t ht => h t (by simp [ht]))
    have := h x (by simp)
    rw [sumK_cons, List.length_cons]
    omega
theorem sumK_twice {l : List Tk} {E : Nat} {e : Int → Nat} (h : ∀ t ∈ l, e t.nr ≤ E) : sumK (fun t => 2 ^ (E + 1 - e t.nr)) l = 2 * sumK (fun t => 2 ^ (E - e t.nr)) l := by
  induction l with
  | nil => rfl
  | cons x l ih =>
    rw [sumK_cons, sumK_cons, ih (fun t ht => h t (by simp [ht]))]
    have := h x (by simp)
    rw [show E + 1 - e x.nr = (E - e x.nr) + 1 by omega, Nat.pow_succ]
    omega

/-- the two least may lie deepest, both of them -/
theorem norm {l : List Tk} {nx : Int} {a b : Tk} {R : List Tk} (ok : PoolOk l nx) (hp : l.Perm (a :: b :: R)) (ha : ∀ t ∈ R, keyK a ≤ keyK t) (hab : keyK a ≤ keyK b) (hb : ∀ t ∈ R, keyK b ≤ keyK t) :
    ∀ (E : Nat) (e : Int → Nat), (∀ t ∈ l, e t.nr ≤ E) → kraftE E e l ≤ 2 ^ E → ∃ (E' : Nat) (e' : Int → Nat), 1 ≤ E' ∧ (∀ t ∈ l, e' t.nr ≤ E') ∧ kraftE E' e' l ≤ 2 ^ E' ∧ cost e' l ≤ cost e l ∧ e' a.nr = E' ∧ e' b.nr = E' := by
  have hal : a ∈ l := hp.mem_iff.2 (by simp)
  have hbl : b ∈ l := hp.mem_iff.2 (by simp)
  have hx : nx ≤ 1024 := by have := ok.top; omega
  have mem : ∀ r, r ∈ l → r = a ∨ r = b ∨ r ∈ R := fun r hr => by
    have := hp.mem_iff.1 hr
    simpa using this
  have hne : a.nr ≠ b.nr := (others ok hp).1
  have wa : ∀ t ∈ l, a.wt ≤ t.wt := fun t ht => by
    rcases mem t ht with h | h | h
    · rw [h]; omega
    · exact key_wt (by rw [h]; exact hab) (ok.nr a hal) (ok.nr t ht) hx
    · exact key_wt (ha t h) (ok.nr a hal) (ok.nr t ht) hx
  have wb : ∀ t ∈ l, t.nr ≠ a.nr → b.wt ≤ t.wt := fun t ht hn => by
    rcases mem t ht with h | h | h
    · rw [h] at hn; exact absurd rfl hn
    · rw [h]; omega
    · exact key_wt (hb t h) (ok.nr b hbl) (ok.nr t ht) hx
  intro E
  induction E with
  | zero =>
    intro e hE hk
    exfalso
    have h1 := sumK_pos (l := l) (f := fun t => 2 ^ (0 - e t.nr)) (fun t _ => Nat.one_le_two_pow)
    have h2 := hp.length_eq
    simp only [List.length_cons] at h2
    unfold kraftE at hk
    omega
  | succ E ih =>
    intro e hE hk
    by_cases hX : ∃ x ∈ l, e x.nr = E + 1
    · obtain ⟨x, hxl, hxe⟩ := hX
      obtain ⟨m, hm⟩ := mem_perm hxl
      have hom := others1 ok hm
      by_cases hY : ∃ y ∈ m, e y.nr = E + 1
      · obtain ⟨y, hym, hye⟩ := hY
        have hyl : y ∈ l := hm.mem_iff.2 (by simp [hym])
        have hxy := hom y hym
        have s1 : ∃ (e1 : Int → Nat) (z : Tk), (∀ t ∈ l, e1 t.nr ≤ E + 1) ∧ kraftE (E + 1) e1 l ≤ 2 ^ (E + 1) ∧ cost e1 l ≤ cost e l ∧ e1 a.nr = E + 1 ∧ z ∈ l ∧ z.nr ≠ a.nr ∧ e1 z.nr = E + 1 := by
          by_cases h : e a.nr = E + 1
          · by_cases h2 : x.nr = a.nr
            · exact ⟨e, y, hE, hk, Int.le_refl _, h, hyl, by omega, hye⟩
            · exact ⟨e, x, hE, hk, Int.le_refl _, h, hxl, h2, hxe⟩
          · have hax : a.nr ≠ x.nr := fun h2 => h (by rw [h2]; exact hxe)
            have hay : y.nr ≠ a.nr := fun h2 => h (by rw [← h2]; exact hye)
            obtain ⟨g1, g2, g3⟩ := swap_good ok hal hxl hax (wa x hxl) (by rw [hxe]; exact hE a hal) hE
            exact ⟨swapE e a.nr x.nr, y, g3, by rw [g2]; exact hk, g1, by simp [swapE, hxe], hyl, hay, by simp [swapE, hay, hxy, hye]⟩
        obtain ⟨e1, z, b1, k1, c1, ea, hzl, hza, ez⟩ := s1
        by_cases h : e1 b.nr = E + 1
        · exact ⟨E + 1, e1, by omega, b1, k1, c1, ea, h⟩
        · have hbz : b.nr ≠ z.nr := fun h2 => h (by rw [h2]; exact ez)
          obtain ⟨g1, g2, g3⟩ := swap_good ok hbl hzl hbz (wb z hzl hza) (by rw [ez]; exact b1 b hbl) b1
          have hza' : ¬ a.nr = z.nr := fun h => hza h.symm
          exact ⟨E + 1, swapE e1 b.nr z.nr, by omega, g3, by rw [g2]; exact k1, Int.le_trans g1 c1, by simp [swapE, hne, hza', ea], by simp [swapE, ez]⟩
      · have hmE : ∀ t ∈ m, e t.nr ≤ E := fun t ht => by
          have h1 := hE t (hm.mem_iff.2 (by simp [ht]))
          by_cases h2 : e t.nr = E + 1
          · exact absurd ⟨t, ht, h2⟩ hY
          · omega
        have u1 : updE e x.nr E x.nr = E := by simp [updE]
        have u2 : ∀ t ∈ m, updE e x.nr E t.nr = e t.nr := fun t ht => by simp [updE, hom t ht]
        have hk' := hk
        unfold kraftE at hk'
        rw [sumK_perm _ hm, sumK_cons, hxe, sumK_twice hmE] at hk'
        obtain ⟨E', e', h1, h2, h3, h4, h5, h6⟩ := ih (updE e x.nr E) (fun t ht => by
            have := hm.mem_iff.1 ht
            rcases List.mem_cons.1 this with h | h
            · rw [h, u1]; omega
            · rw [u2 t h]; exact hmE t h) (by
            unfold kraftE
            rw [sumK_perm _ hm, sumK_cons, u1, sumK_congr (fun t ht => by rw [u2 t ht] : ∀ t ∈ m, 2 ^ (E - updE e x.nr E t.nr) = 2 ^ (E - e t.nr)), Nat.sub_self]
            rw [Nat.pow_succ] at hk'
            simp at hk' ⊢
            omega)
        refine ⟨E', e', h1, h2, h3, Int.le_trans h4 ?_, h5, h6⟩
        unfold cost
        rw [sumT_perm _ hm, sumT_perm _ hm, sumT_cons, sumT_cons, u1, hxe, sumT_congr (fun t ht => by rw [u2 t ht] : ∀ t ∈ m, t.wt * (updE e x.nr E t.nr : Int) = t.wt * (e t.nr : Int))]
        have := Int.mul_le_mul_of_nonneg_left (show (E : Int) ≤ ((E + 1 : Nat) : Int) by omega) (Int.le_of_lt (ok.wt x hxl))
        omega
    · have hE' : ∀ t ∈ l, e t.nr ≤ E := fun t ht => by
        have h1 := hE t ht
        by_cases h2 : e t.nr = E + 1
        · exact absurd ⟨t, ht, h2⟩ hX
        · omega
      exact ih e hE' (by
        unfold kraftE at hk ⊢
        rw [sumK_twice hE', Nat.pow_succ] at hk
        omega)

/-- no lengths are better -/
theorem Run.best {l : List Tk} {nx : Int} {d : Int → Nat} (h : Run l nx d) : PoolOk l nx → ∀ (E : Nat) (e : Int → Nat), (∀ t ∈ l, e t.nr ≤ E) → kraftE E e l ≤ 2 ^ E → cost d l ≤ cost e l := by
  induction h with
  | @done l nx d h hd =>
    intro ok E e hE hk
    have h0 : cost d l = sumT (fun _ => 0) l := sumT_congr (fun t ht => by rw [hd t ht]; simp)
    have h1 : sumT (fun _ => (0 : Int)) l ≤ cost e l := by
      unfold cost
      clear h0 hk hd h
      have hw := ok.wt
      clear ok hE
      induction l with
      | nil => exact Int.le_refl _
      | cons x l ih =>
        rw [sumT_cons, sumT_cons]
        have := ih (fun t ht => hw t (by simp [ht]))
        have := Int.mul_nonneg (Int.le_of_lt (hw x (by simp))) (show (0 : Int) ≤ (e x.nr : Int) by omega)
        omega
    omega
  | @step l nx d d' a b R hp ha hab hb hr hR hda hdb ih =>
    intro ok E e hE hk
    obtain ⟨E', e', h1, h2, h3, h4, h5, h6⟩ := norm ok hp ha hab hb E e hE hk
    refine Int.le_trans ?_ h4
    have ok2 := ok.perm hp
    have hRn : ∀ t ∈ R, t.nr ≠ nx := fun t ht => by
      have := ok2.nr t (by simp [ht]); omega
    have u1 : updE e' nx (E' - 1) nx = E' - 1 := by simp [updE]
    have u2 : ∀ t ∈ R, updE e' nx (E' - 1) t.nr = e' t.nr := fun t ht => by simp [updE, hRn t ht]
    have h3' := h3
    unfold kraftE at h3'
    rw [sumK_perm _ hp, sumK_cons, sumK_cons, h5, h6, Nat.sub_self] at h3'
    have key := ih ok2.step E' (updE e' nx (E' - 1)) (fun t ht => by
        rcases List.mem_append.1 ht with h | h
        · rw [u2 t h]; exact h2 t (hp.mem_iff.2 (by simp [h]))
        · simp at h; subst h; show updE e' nx (E' - 1) nx ≤ E'; rw [u1]; omega) (by
        unfold kraftE
        rw [sumK_append, sumK_cons, sumK_nil]
        show _ + (2 ^ (E' - updE e' nx (E' - 1) nx) + 0) ≤ _
        rw [u1, show E' - (E' - 1) = 1 by omega, sumK_congr (fun t ht => by rw [u2 t ht] : ∀ t ∈ R, 2 ^ (E' - updE e' nx (E' - 1) t.nr) = 2 ^ (E' - e' t.nr))]
        simp at h3' ⊢
        omega)
    unfold cost at key ⊢
    rw [sumT_append, sumT_append, sumT_cons, sumT_cons, sumT_nil] at key
    have key : sumT (fun t => t.wt * (d' t.nr : Int)) R + ((a.wt + b.wt) * (d' nx : Int) + 0) ≤ sumT (fun t => t.wt * (updE e' nx (E' - 1) t.nr : Int)) R + ((a.wt + b.wt) * (updE e' nx (E' - 1) nx : Int) + 0) := key
    rw [u1, sumT_congr (fun t ht => by rw [u2 t ht] : ∀ t ∈ R, t.wt * (updE e' nx (E' - 1) t.nr : Int) = t.wt * (e' t.nr : Int))] at key
    rw [sumT_perm _ hp, sumT_perm _ hp, sumT_cons, sumT_cons, sumT_cons, sumT_cons, hda, hdb, h5, h6, sumT_congr (fun t ht => by rw [hR t ht] : ∀ t ∈ R, t.wt * (d t.nr : Int) = t.wt * (d' t.nr : Int))]
    obtain ⟨k, rfl⟩ : ∃ k, E' = k + 1 := ⟨E' - 1, by omega⟩
    simp only [Nat.add_sub_cancel] at key
    simp only [Int.natCast_add, Int.mul_add, Int.add_mul] at key ⊢
    omega
end Go.Proofs.Ytbbljpkboojjhaa
