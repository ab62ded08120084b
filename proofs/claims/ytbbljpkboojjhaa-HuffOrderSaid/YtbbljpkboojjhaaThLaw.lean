/- A heap from a place on; rows that hold the same: plain laws. -/
import Derived.Test.YtbbljpkboojjhaaThPush
namespace Go.Proofs.Ytbbljpkboojjhaa

def cntL (l : List Int) (s : Int) : Nat := (l.filter (fun x => decide (x = s))).length
theorem cntL_cons (x s : Int) (l : List Int) : cntL (x :: l) s = (if x = s then 1 else 0) + cntL l s := by
  unfold cntL
  rw [List.filter_cons]
  by_cases h : x = s
  · simp [h]; omega
  · simp [h]
theorem cntL_append (a b : List Int) (s : Int) : cntL (a ++ b) s = cntL a s + cntL b s := by
  unfold cntL
  rw [List.filter_append, List.length_append]
theorem cntL_set (s y : Int) : ∀ (l : List Int) (i : Nat), i < l.length → cntL (l.set i y) s + (if l.getD i 0 = s then 1 else 0) = cntL l s + (if y = s then 1 else 0)
  | [], i, h => by simp at h
  | x :: l, 0, h => by
    simp only [List.set_cons_zero, List.getD_cons_zero, cntL_cons]
    omega
  | x :: l, i + 1, h => by
    have := cntL_set s y l i (by simpa using h)
    simp only [List.set_cons_succ, List.getD_cons_succ, cntL_cons]
    omega
theorem cntL_pos {l : List Int} {s : Int} : 0 < cntL l s ↔ s ∈ l := by
  unfold cntL
  rw [List.length_pos_iff_exists_mem]
  constructor
  · rintro ⟨x, hx⟩
    rw [List.mem_filter] at hx
    have := of_decide_eq_true hx.2
    rw [← this]; exact hx.1
  · intro h
    exact ⟨s, List.mem_filter.2 ⟨h, by simp⟩⟩
/-- the same numbers, each as often -/
def SameN (a b : List Int) : Prop := ∀ s, cntL a s = cntL b s
theorem SameN.refl (a : List Int) : SameN a a := fun _ => rfl
theorem SameN.trans {a b c : List Int} (h : SameN a b) (k : SameN b c) : SameN a c := fun s => (h s).trans (k s)
theorem SameN.mem {a b : List Int} (h : SameN a b) {s : Int} : s ∈ a ↔ s ∈ b := by rw [← cntL_pos, ← cntL_pos, h s]
theorem getD_in {l : List Int} {i : Nat} (h : i < l.length) : l.getD i 0 ∈ l := by
  rw [List.getD_eq_getElem?_getD, List.getElem?_eq_getElem h]; exact List.getElem_mem _
theorem in_getD {l : List Int} {z : Int} (h : z ∈ l) : ∃ i, i < l.length ∧ l.getD i 0 = z := by
  obtain ⟨i, hi, rfl⟩ := List.mem_iff_getElem.1 h
  exact ⟨i, hi, by rw [List.getD_eq_getElem?_getD, List.getElem?_eq_getElem hi]; rfl⟩
theorem NumT.same {a b : List Int} (h : NumT a) (hs : SameN b a) : NumT b := fun i hi => by
  obtain ⟨j, hj, e⟩ := in_getD (hs.mem.1 (getD_in hi))
  rw [← e]
  exact h j hj
theorem sameN_swap {q : List Int} {i j : Nat} (hi : i < q.length) (hj : j < q.length) : SameN (swapL q i j) q := fun s => by
  have h1 := cntL_set s (q.getD j 0) q i hi
  have h2 := cntL_set s (q.getD i 0) (q.set i (q.getD j 0)) j (by simpa using hj)
  have e : (q.set i (q.getD j 0)).getD j 0 = q.getD j 0 := by
    by_cases h : i = j
    · subst h
      rw [List.getD_eq_getElem?_getD, List.getElem?_set_self hi]
      rfl
    · rw [show (q.set i (q.getD j 0)).getD j 0 = q.getD j 0 from by rw [List.getD_eq_getElem?_getD, List.getElem?_set_ne h, ← List.getD_eq_getElem?_getD]]
  rw [e] at h2
  unfold swapL
  omega

/-- a heap among the first n, from place lo on -/
def HeapL (q : List Int) (n lo : Nat) : Prop := ∀ k, 0 < k → k < n → lo ≤ (k - 1) / 2 → q.getD ((k - 1) / 2) 0 ≤ q.getD k 0
theorem HeapL.heap {q : List Int} {n : Nat} (h : HeapL q n 0) : HeapN q n := fun k h1 h2 => h k h1 h2 (Nat.zero_le _)
theorem HeapN.low {q : List Int} {n : Nat} (h : HeapN q n) : HeapL q n 0 := fun k h1 h2 _ => h k h1 h2
def DownL (q : List Int) (n lo i : Nat) : Prop :=
  lo ≤ i ∧ (∀ k, 0 < k → k < n → lo ≤ (k - 1) / 2 → (k - 1) / 2 ≠ i → q.getD ((k - 1) / 2) 0 ≤ q.getD k 0) ∧ (∀ k, 0 < k → k < n → (k - 1) / 2 = i → 0 < i → lo ≤ (i - 1) / 2 → q.getD ((i - 1) / 2) 0 ≤ q.getD k 0)
theorem DownL.start {q : List Int} {n lo : Nat} (h : HeapL q n (lo + 1)) : DownL q n lo lo :=
  ⟨Nat.le_refl _, fun k h1 h2 h3 h4 => h k h1 h2 (by omega), fun k h1 h2 h3 h4 h5 => by omega⟩
theorem DownL.done {q : List Int} {n lo i : Nat} (h : DownL q n lo i) (h2 : ∀ k, 0 < k → k < n → (k - 1) / 2 = i → q.getD i 0 ≤ q.getD k 0) : HeapL q n lo := by
  intro k h0 hk hl
  by_cases he : (k - 1) / 2 = i
  · rw [he]; exact h2 k h0 hk he
  · exact h.2.1 k h0 hk hl he
theorem DownL.step {q : List Int} {n lo i j : Nat} (h : DownL q n lo i) (hn : n ≤ q.length) (hi : i < n) (hj : j < n) (h0 : 0 < j) (hp : (j - 1) / 2 = i) (hlt : q.getD j 0 ≤ q.getD i 0)
    (hmin : ∀ k, 0 < k → k < n → (k - 1) / 2 = i → q.getD j 0 ≤ q.getD k 0) : DownL (swapL q i j) n lo j := by
  have hij : i ≠ j := by omega
  have g := fun k => swapL_get q (i := i) (j := j) (by omega) (by omega) k
  obtain ⟨hlo, ha1, ha2⟩ := h
  refine ⟨by omega, ?_, ?_⟩
  · intro k h1 h2 h3' h3
    rw [g, g]
    by_cases ha : k = j
    · rw [if_pos ha, ha, hp, if_neg hij, if_pos rfl]
      exact hlt
    · rw [if_neg ha, if_neg h3]
      by_cases hb : (k - 1) / 2 = i
      · rw [if_pos hb, if_neg (by omega)]
        exact hmin k h1 h2 hb
      · rw [if_neg hb]
        by_cases hc : k = i
        · rw [if_pos hc, hc]
          rw [hc] at h3'
          exact ha2 j h0 hj hp (by omega) h3'
        · rw [if_neg hc]
          exact ha1 k h1 h2 h3' hb
  · intro k h1 h2 h3 _ _
    rw [g, g, hp, if_neg hij, if_pos rfl, if_neg (by omega), if_neg (by omega)]
    rw [← h3]
    exact ha1 k h1 h2 (by omega) (by omega)
end Go.Proofs.Ytbbljpkboojjhaa
