/- Huffman's trees: no one who weighs more lies deeper; the depths are bounded; no lengths are better. Plain. -/
import Derived.Test.YtbbljpkboojjhaaTreeS
namespace Go.Proofs.Ytbbljpkboojjhaa

def sumT (f : Tk → Int) (l : List Tk) : Int := (l.map f).sum
def sumK (f : Tk → Nat) (l : List Tk) : Nat := (l.map f).sum
theorem sumT_cons (f : Tk → Int) (t : Tk) (l : List Tk) : sumT f (t :: l) = f t + sumT f l := by simp [sumT]
theorem sumK_cons (f : Tk → Nat) (t : Tk) (l : List Tk) : sumK f (t :: l) = f t + sumK f l := by simp [sumK]
theorem sumT_append (f : Tk → Int) (l m : List Tk) : sumT f (l ++ m) = sumT f l + sumT f m := by simp [sumT]
theorem sumK_append (f : Tk → Nat) (l m : List Tk) : sumK f (l ++ m) = sumK f l + sumK f m := by simp [sumK]
theorem sumT_nil (f : Tk → Int) : sumT f [] = 0 := rfl
theorem sumK_nil (f : Tk → Nat) : sumK f [] = 0 := rfl
theorem sumT_perm (f : Tk → Int) {l m : List Tk} (h : l.Perm m) : sumT f l = sumT f m := by
  induction h with
  | nil => rfl
  | cons x _ ih => rw [sumT_cons, sumT_cons, ih]
  | swap x y l => simp only [sumT_cons]; omega
  | trans _ _ h1 h2 => rw [h1, h2]
theorem sumK_perm (f : Tk → Nat) {l m : List Tk} (h : l.Perm m) : sumK f l = sumK f m := by
  induction h with
  | nil => rfl
  | cons x _ ih => rw [sumK_cons, sumK_cons, ih]
  | swap x y l => simp only [sumK_cons]; omega
  | trans _ _ h1 h2 => rw [h1, h2]
theorem sumT_congr {f g : Tk → Int} {l : List Tk} (h : ∀ t ∈ l, f t = g t) : sumT f l = sumT g l := by
  unfold sumT; rw [List.map_congr_left h]
theorem sumK_congr {f g : Tk → Nat} {l : List Tk} (h : ∀ t ∈ l, f t = g t) : sumK f l = sumK g l := by
  unfold sumK; rw [List.map_congr_left h]

/-- all ways: the two least become one, till one is left; d tells the depths -/
inductive Run : List Tk → Int → (Int → Nat) → Prop
  | done {l : List Tk} {nx : Int} {d : Int → Nat} (h : l.length ≤ 1) (hd : ∀ t ∈ l, d t.nr = 0) : Run l nx d
  | step {l : List Tk} {nx : Int} {d d' : Int → Nat} {a b : Tk} {R : List Tk} (hp : l.Perm (a :: b :: R)) (ha : ∀ t ∈ R, keyK a ≤ keyK t) (hab : keyK a ≤ keyK b) (hb : ∀ t ∈ R, keyK b ≤ keyK t)
      (hr : Run (R ++ [⟨a.wt + b.wt, nx, a.ps ++ b.ps⟩]) (nx + 1) d') (hR : ∀ t ∈ R, d t.nr = d' t.nr) (hda : d a.nr = d' nx + 1) (hdb : d b.nr = d' nx + 1) : Run l nx d

structure PoolOk (l : List Tk) (nx : Int) : Prop where
  wt : ∀ t ∈ l, 0 < t.wt
  nr : ∀ t ∈ l, 0 ≤ t.nr ∧ t.nr < nx
  once : l.Pairwise (fun s t => s.nr ≠ t.nr)
  top : nx + (l.length : Int) ≤ 1024
  pos : 0 ≤ nx

theorem PoolOk.perm {l m : List Tk} {nx : Int} (h : PoolOk l nx) (hp : l.Perm m) : PoolOk m nx :=
  ⟨fun t ht => h.wt t (hp.mem_iff.2 ht), fun t ht => h.nr t (hp.mem_iff.2 ht), (hp.pairwise_iff (fun h => fun e => h e.symm)).1 h.once, by have := hp.length_eq; have := h.top; omega, h.pos⟩
theorem PoolOk.step {a b : Tk} {R : List Tk} {nx : Int} {ps : List Int} (h : PoolOk (a :: b :: R) nx) : PoolOk (R ++ [⟨a.wt + b.wt, nx, ps⟩]) (nx + 1) := by
  have h1 := h.wt a (by simp)
  have h2 := h.wt b (by simp)
  have hn := h.top
  have hp := h.pos
  simp only [List.length_cons] at hn
  refine ⟨fun t ht => ?_, fun t ht => ?_, ?_, ?_, by omega⟩
  · rcases List.mem_append.1 ht with ht | ht
    · exact h.wt t (by simp [ht])
    · simp at ht; subst ht; show 0 < a.wt + b.wt; omega
  · rcases List.mem_append.1 ht with ht | ht
    · have := h.nr t (by simp [ht]); omega
    · simp at ht; subst ht; exact ⟨hp, by show nx < nx + 1; omega⟩
  · rw [List.pairwise_append]
    have := h.once
    simp only [List.pairwise_cons] at this
    refine ⟨this.2.2, by simp, fun s hs t ht => ?_⟩
    simp at ht; subst ht
    have := h.nr s (by simp [hs])
    show s.nr ≠ nx
    omega
  · simp only [List.length_append, List.length_singleton]; omega
theorem PoolOk.inj {l : List Tk} {nx : Int} (h : PoolOk l nx) {s t : Tk} (hs : s ∈ l) (ht : t ∈ l) (e : s.nr = t.nr) : s = t := by
  have ho := h.once
  clear h
  induction l with
  | nil => simp at hs
  | cons x l ih =>
    rw [List.pairwise_cons] at ho
    rcases List.mem_cons.1 hs with h1 | h1
    · rcases List.mem_cons.1 ht with h2 | h2
      · rw [h1, h2]
      · rw [h1] at e; exact absurd e (ho.1 _ h2)
    · rcases List.mem_cons.1 ht with h2 | h2
      · rw [h2] at e; exact absurd e.symm (ho.1 _ h1)
      · exact ih h1 h2 ho.2
theorem key_wt {nx : Int} {s t : Tk} (h : keyK s ≤ keyK t) (hs : 0 ≤ s.nr ∧ s.nr < nx) (ht : 0 ≤ t.nr ∧ t.nr < nx) (hx : nx ≤ 1024) : s.wt ≤ t.wt := by
  unfold keyK at h; omega
theorem key_eq {nx : Int} {s t : Tk} (h : keyK s = keyK t) (hs : 0 ≤ s.nr ∧ s.nr < nx) (ht : 0 ≤ t.nr ∧ t.nr < nx) (hx : nx ≤ 1024) : s.nr = t.nr ∧ s.wt = t.wt := by
  unfold keyK at h; omega

/-- no one who weighs more lies deeper; and where no one weighs more than two, all depths lie within one -/
theorem Run.order {l : List Tk} {nx : Int} {d : Int → Nat} (h : Run l nx d) : PoolOk l nx →
    (∀ r ∈ l, ∀ s ∈ l, keyK s < keyK r → d r.nr ≤ d s.nr) ∧
    (∀ r ∈ l, ∀ s ∈ l, (∀ x ∈ l, ∀ y ∈ l, x.nr ≠ y.nr → s.wt ≤ x.wt + y.wt) → d r.nr ≤ d s.nr + 1) := by
  induction h with
  | done h hd => exact fun _ => ⟨fun r hr s hs _ => by rw [hd r hr]; omega, fun r hr s hs _ => by rw [hd r hr]; omega⟩
  | @step l nx d d' a b R hp ha hab hb hr hR hda hdb ih =>
    intro ok
    have ok2 := ok.perm hp
    obtain ⟨A', C'⟩ := ih ok2.step
    have hx : nx ≤ 1024 := by have := ok.top; omega
    have na := ok2.nr a (by simp)
    have nb := ok2.nr b (by simp)
    have pa := ok2.wt a (by simp)
    have pb := ok2.wt b (by simp)
    have Q : ∀ r ∈ R, d' r.nr ≤ d' nx + 1 := fun r hr => by
      refine C' r (by simp [hr]) ⟨a.wt + b.wt, nx, a.ps ++ b.ps⟩ (by simp) fun x hx' y hy' hne => ?_
      show a.wt + b.wt ≤ x.wt + y.wt
      rcases List.mem_append.1 hx' with h1 | h1
      · have w1 := key_wt (ha x h1) na (ok2.nr x (by simp [h1])) hx
        have p1 := ok2.wt x (by simp [h1])
        rcases List.mem_append.1 hy' with h2 | h2
        · have w2 := key_wt (hb y h2) nb (ok2.nr y (by simp [h2])) hx
          omega
        · simp at h2; subst h2
          show a.wt + b.wt ≤ x.wt + (a.wt + b.wt)
          omega
      · simp at h1; subst h1
        have p2 : 0 < y.wt := ok2.step.wt y hy'
        show a.wt + b.wt ≤ a.wt + b.wt + y.wt
        omega
    have mem : ∀ r, r ∈ l → r = a ∨ r = b ∨ r ∈ R := fun r hr => by
      have := hp.mem_iff.1 hr
      simpa using this
    have A : ∀ r ∈ l, ∀ s ∈ l, keyK s < keyK r → d r.nr ≤ d s.nr := fun r hr' s hs' hk => by
      rcases mem r hr' with rfl | rfl | h1
      · rcases mem s hs' with rfl | rfl | h2
        · omega
        · omega
        · have := ha s h2; omega
      · rcases mem s hs' with rfl | rfl | h2
        · omega
        · omega
        · have := hb s h2; omega
      · rcases mem s hs' with rfl | rfl | h2
        · rw [hR r h1, hda]; exact Q r h1
        · rw [hR r h1, hdb]; exact Q r h1
        · rw [hR r h1, hR s h2]
          exact A' r (by simp [h1]) s (by simp [h2]) hk
    refine ⟨A, fun r hr' s hs' hc => ?_⟩
    have hrm : d r.nr ≤ d' nx + 1 := by
      rcases mem r hr' with rfl | rfl | h1
      · omega
      · omega
      · rw [hR r h1]; exact Q r h1
    rcases mem s hs' with rfl | rfl | h2
    · omega
    · omega
    · have hne : a.nr ≠ b.nr := by
        have := ok2.once
        simp only [List.pairwise_cons] at this
        exact this.1 b (by simp)
      have hs2 := hc a (hp.mem_iff.2 (by simp)) b (hp.mem_iff.2 (by simp)) hne
      have ns := ok2.nr s (by simp [h2])
      have := A' ⟨a.wt + b.wt, nx, a.ps ++ b.ps⟩ (by simp) s (by simp [h2]) (by unfold keyK; show s.wt * 1024 + s.nr < (a.wt + b.wt) * 1024 + nx; omega)
      have this : d' nx ≤ d' s.nr := this
      rw [hR s h2]
      omega

def fibS : Nat → Int
  | 0 => 0
  | 1 => 1
  | n + 2 => fibS n + fibS (n + 1)
theorem fibS_nonneg : ∀ n, 0 ≤ fibS n ∧ 0 ≤ fibS (n + 1)
  | 0 => by simp [fibS]
  | n + 1 => by have := fibS_nonneg n; refine ⟨this.2, ?_⟩; rw [fibS]; omega
theorem fibS_up : ∀ n m, n ≤ m → 1 ≤ n → fibS n ≤ fibS m := fun n m h h1 => by
  induction m with
  | zero => omega
  | succ m ih =>
    by_cases e : n = m + 1
    · subst e; exact Int.le_refl _
    · have i1 := ih (by omega)
      obtain ⟨k, rfl⟩ : ∃ k, m = k + 1 := ⟨m - 1, by omega⟩
      have := (fibS_nonneg k).1
      rw [fibS]; omega

/-- a deep one needs weight -/
theorem Run.fib {l : List Tk} {nx : Int} {d : Int → Nat} (h : Run l nx d) : PoolOk l nx →
    ∀ p ∈ l, ∀ r ∈ l, p.nr ≠ r.nr → (∀ t ∈ l, keyK p ≤ keyK t) → fibS (d r.nr) * p.wt + fibS (d r.nr + 1) * r.wt ≤ sumT (fun t => t.wt) l := by
  induction h with
  | @done l nx d h hd =>
    intro ok p hp r hr hne
    exfalso
    match l, h, hp, hr with
    | [x], _, hp, hr =>
      simp at hp hr
      subst hp; subst hr
      exact hne rfl
  | @step l nx d d' a b R hp ha hab hb hr hR hda hdb ih =>
    intro ok p hpl r hrl hne hle
    have ok2 := ok.perm hp
    have ok3 : PoolOk (R ++ [⟨a.wt + b.wt, nx, a.ps ++ b.ps⟩]) (nx + 1) := ok2.step
    have ih' := ih ok3
    have hx : nx ≤ 1024 := by have := ok.top; omega
    have na := ok2.nr a (by simp)
    have nb := ok2.nr b (by simp)
    have pa := ok2.wt a (by simp)
    have pb := ok2.wt b (by simp)
    have wab := key_wt hab na nb hx
    have hal : a ∈ l := hp.mem_iff.2 (by simp)
    have hbl : b ∈ l := hp.mem_iff.2 (by simp)
    have mem : ∀ r, r ∈ l → r = a ∨ r = b ∨ r ∈ R := fun r hr => by
      have := hp.mem_iff.1 hr
      simpa using this
    have hap : keyK a ≤ keyK p := by
      rcases mem p hpl with rfl | rfl | h1
      · omega
      · exact hab
      · exact ha p h1
    have hpa := hle a hal
    obtain ⟨en, ew⟩ := key_eq (by omega : keyK p = keyK a) (ok.nr p hpl) na hx
    rw [ew]
    rw [en] at hne
    have hsum : sumT (fun t => t.wt) l = sumT (fun t => t.wt) (R ++ [⟨a.wt + b.wt, nx, a.ps ++ b.ps⟩]) := by
      rw [sumT_perm _ hp, sumT_append, sumT_cons, sumT_cons, sumT_cons, sumT_nil]
      show a.wt + (b.wt + _) = _ + (a.wt + b.wt + 0)
      omega
    rw [hsum]
    have hmk : ∀ x ∈ R, b.wt ≤ x.wt := fun x hx' => key_wt (hb x hx') nb (ok2.nr x (by simp [hx'])) hx
    have mm : ∀ {u v : Int} (n : Nat), u ≤ v → fibS n * u ≤ fibS n * v := fun n h => Int.mul_le_mul_of_nonneg_left h (fibS_nonneg n).1
    cases hr with
    | done hl hd =>
      simp only [List.length_append, List.length_singleton] at hl
      obtain rfl : R = [] := List.eq_nil_of_length_eq_zero (by omega)
      have hm0 : d' nx = 0 := hd ⟨a.wt + b.wt, nx, a.ps ++ b.ps⟩ (by simp)
      rcases mem r hrl with rfl | rfl | h1
      · exact absurd rfl hne
      · rw [hdb, hm0]
        simp only [sumT, fibS, List.nil_append, List.map_cons, List.map_nil, List.sum_cons, List.sum_nil]
        omega
      · simp at h1
    | @step _ _ _ d2 a' b' R' hp' ha' hab' hb' hr' hR' hda' hdb' =>
      have ha'l : a' ∈ R ++ [(⟨a.wt + b.wt, nx, a.ps ++ b.ps⟩ : Tk)] := hp'.mem_iff.2 (by simp)
      have hb'l : b' ∈ R ++ [(⟨a.wt + b.wt, nx, a.ps ++ b.ps⟩ : Tk)] := hp'.mem_iff.2 (by simp)
      have ok4 := ok3.perm hp'
      have hx3 : nx + 1 ≤ 1024 := by
        have := ok3.top
        simp only [List.length_append, List.length_singleton] at this
        omega
      have least : ∀ t ∈ R ++ [(⟨a.wt + b.wt, nx, a.ps ++ b.ps⟩ : Tk)], keyK a' ≤ keyK t := fun t ht => by
        have := hp'.mem_iff.1 ht
        simp at this
        rcases this with rfl | rfl | h1
        · omega
        · exact hab'
        · exact ha' t h1
      have hne' : a'.nr ≠ b'.nr := by
        have := ok4.once
        simp only [List.pairwise_cons] at this
        exact this.1 b' (by simp)
      have wab' := key_wt hab' (ok3.nr a' ha'l) (ok3.nr b' hb'l) hx3
      have sib : d' b'.nr = d' a'.nr := by rw [hda', hdb']
      have i1 := ih' a' ha'l b' hb'l hne' least
      rw [sib] at i1
      rcases mem r hrl with rfl | rfl | h1
      · exact absurd rfl hne
      · rw [hdb]
        obtain ⟨e, he⟩ : ∃ e, e = d' nx := ⟨_, rfl⟩
        by_cases hm : a'.nr = nx
        · have hm' : a' = ⟨a.wt + r.wt, nx, a.ps ++ r.ps⟩ := ok3.inj ha'l (by simp) hm
          rw [hm, ← he] at i1
          have wm : a'.wt = a.wt + r.wt := by rw [hm']
          rw [wm] at i1
          have j1 := mm (e + 1) (show a.wt + r.wt ≤ b'.wt by omega)
          rw [← he]
          rw [show fibS (e + 1 + 1) = fibS e + fibS (e + 1) from rfl, Int.add_mul]
          rw [Int.mul_add] at i1 j1
          have j2 := mm e (show (0 : Int) ≤ a.wt by omega)
          omega
        · have i2 := ih' a' ha'l ⟨a.wt + r.wt, nx, a.ps ++ r.ps⟩ (by simp) hm least
          have i2 : fibS (d' nx) * a'.wt + fibS (d' nx + 1) * (a.wt + r.wt) ≤ _ := i2
          rw [← he] at i2
          have ha'R : a' ∈ R := by
            rcases List.mem_append.1 ha'l with h | h
            · exact h
            · simp at h; rw [h] at hm; exact absurd rfl hm
          have j1 := mm e (hmk a' ha'R)
          rw [← he, show fibS (e + 1 + 1) = fibS e + fibS (e + 1) from rfl, Int.add_mul]
          rw [Int.mul_add] at i2
          omega
      · rw [hR r h1]
        have h1' : r ∈ R ++ [(⟨a.wt + b.wt, nx, a.ps ++ b.ps⟩ : Tk)] := by simp [h1]
        have wr := hmk r h1
        by_cases hm : a'.nr = r.nr
        · have hm' : a' = r := ok3.inj ha'l h1' hm
          rw [← hm]
          have j1 := mm (d' a'.nr) (show a.wt ≤ a'.wt by rw [hm']; omega)
          have j2 := mm (d' a'.nr + 1) (show r.wt ≤ b'.wt by rw [← hm']; omega)
          omega
        · have i2 := ih' a' ha'l r h1' hm least
          have j1 := mm (d' r.nr) (show a.wt ≤ a'.wt by
            rcases List.mem_append.1 ha'l with h | h
            · have := hmk a' h; omega
            · simp at h; rw [h]; show a.wt ≤ a.wt + b.wt; omega)
          omega

/-- the depths fill -/
theorem Run.kraft {l : List Tk} {nx : Int} {d : Int → Nat} (h : Run l nx d) : l ≠ [] → ∀ E, (∀ t ∈ l, d t.nr ≤ E) → sumK (fun t => 2 ^ (E - d t.nr)) l = 2 ^ E := by
  induction h with
  | @done l nx d h hd =>
    intro hn E hE
    match l, h, hn with
    | [x], _, _ =>
      rw [sumK_cons, sumK_nil, hd x (by simp)]
      simp
  | @step l nx d d' a b R hp ha hab hb hr hR hda hdb ih =>
    intro hn E hE
    have e1 := hE a (hp.mem_iff.2 (by simp))
    have := ih (by simp) E (fun t ht => by
      rcases List.mem_append.1 ht with h | h
      · have := hE t (hp.mem_iff.2 (by simp [h])); rw [hR t h] at this; exact this
      · simp at h; subst h; show d' nx ≤ E; omega)
    rw [sumK_append, sumK_cons, sumK_nil] at this
    have this : sumK (fun t => 2 ^ (E - d' t.nr)) R + (2 ^ (E - d' nx) + 0) = 2 ^ E := this
    rw [sumK_perm _ hp, sumK_cons, sumK_cons, hda, hdb, sumK_congr (fun t ht => by rw [hR t ht] : ∀ t ∈ R, 2 ^ (E - d t.nr) = 2 ^ (E - d' t.nr)), ← this]
    have : (2 : Nat) ^ (E - d' nx) = 2 ^ (E - (d' nx + 1)) * 2 := by
      rw [← Nat.pow_succ]
      congr 1
      omega
    omega
end Go.Proofs.Ytbbljpkboojjhaa
