/- The free numbers in runs: the plain law; a number of an owned row stored. -/
import Derived.Test.YtapagllebpcnhaaAllocStart
import Derived.Test.YtapagllebpcnhaaOwnRecs
namespace Go.Proofs.Ytapagllebpcnhaa
open Go.RowKit

/-- the last run is one longer -/
def bump (o : List (List Int)) : List (List Int) := o.set (o.length - 1) ((o.getD (o.length - 1) []).set 1 ((o.getD (o.length - 1) []).getD 1 0 + 1))
/-- the runs among the first k -/
def runsP (L : Nat) (st : List Int) : Nat → List (List Int)
  | 0 => []
  | k + 1 => if st.getD k 0 ≠ 0 then runsP L st k else if 0 < k ∧ st.getD (k - 1) 0 = 0 then bump (runsP L st k) else runsP L st k ++ [[((L + k : Nat) : Int), 1]]
theorem bump_length (o : List (List Int)) : (bump o).length = o.length := by simp [bump]
theorem bump_get (o : List (List Int)) (i : Nat) (hi : i < o.length) : (bump o).getD i [] = if i = o.length - 1 then (o.getD i []).set 1 ((o.getD i []).getD 1 0 + 1) else o.getD i [] := by
  simp only [bump, List.getD_eq_getElem?_getD, List.getElem?_set]
  by_cases h : i = o.length - 1
  · subst h; simp [hi]
  · have : ¬ o.length - 1 = i := fun e => h e.symm
    simp [h, this]
theorem bump_last (o : List (List Int)) (a b : Int) : bump (o ++ [[a, b]]) = o ++ [[a, b + 1]] := by
  simp [bump, List.getD_eq_getElem?_getD, List.set_append_right]

theorem runsP_ne (L : Nat) (st : List Int) : ∀ k, 0 < k → st.getD (k - 1) 0 = 0 → runsP L st k ≠ []
  | 0, h, _ => by omega
  | k + 1, _, h => by
    rw [Nat.add_sub_cancel] at h
    simp only [runsP, h]
    by_cases h1 : 0 < k ∧ st.getD (k - 1) 0 = 0
    · rw [if_neg (by simp), if_pos h1]
      intro e
      have := bump_length (runsP L st k)
      rw [e] at this
      exact runsP_ne L st k h1.1 h1.2 (List.eq_nil_of_length_eq_zero this.symm)
    · rw [if_neg (by simp), if_neg h1]
      simp
theorem runsP_row (L : Nat) (st : List Int) : ∀ k i, i < (runsP L st k).length → ∃ a n : Nat, (runsP L st k).getD i [] = [(a : Int), (n : Int)] ∧ a ≤ L + k ∧ n ≤ k
  | 0, i, h => by simp [runsP] at h
  | k + 1, i, h => by
    simp only [runsP] at h ⊢
    split at h
    case isTrue h1 =>
      rw [if_pos h1]
      obtain ⟨a, n, h2, h3, h4⟩ := runsP_row L st k i h
      exact ⟨a, n, h2, by omega, by omega⟩
    case isFalse h1 =>
      rw [if_neg h1]
      split at h
      case isTrue h5 =>
        rw [if_pos h5]
        rw [bump_length] at h
        obtain ⟨a, n, h2, h3, h4⟩ := runsP_row L st k i h
        rw [bump_get _ i h, h2]
        split
        · exact ⟨a, n + 1, by simp, by omega, by omega⟩
        · exact ⟨a, n, rfl, by omega, by omega⟩
      case isFalse h5 =>
        rw [if_neg h5]
        rw [List.length_append, List.length_singleton] at h
        by_cases h6 : i < (runsP L st k).length
        · obtain ⟨a, n, h2, h3, h4⟩ := runsP_row L st k i h6
          refine ⟨a, n, ?_, by omega, by omega⟩
          rw [List.getD_eq_getElem?_getD, List.getElem?_append_left h6, ← List.getD_eq_getElem?_getD]
          exact h2
        · have h7 : i = (runsP L st k).length := by omega
          subst h7
          exact ⟨L + k, 1, by simp [List.getD_eq_getElem?_getD], by omega, by omega⟩
theorem runsP_length (L : Nat) (st : List Int) : ∀ k, (runsP L st k).length ≤ k
  | 0 => by simp [runsP]
  | k + 1 => by
    have := runsP_length L st k
    simp only [runsP]
    split
    · omega
    · split
      · rw [bump_length]; omega
      · simp; omega

theorem flatten_set (m : Nat) (j : Nat) (y : Int) (hj : j < m) : ∀ (rs : List (List Int)) (i : Nat), (∀ r ∈ rs, r.length = m) → i < rs.length → (rs.set i ((rs.getD i []).set j y)).flatten = rs.flatten.set (i * m + j) y
  | [], _, _, hi => by simp at hi
  | r :: rs, 0, h, _ => by
    have h2 := h r (by simp)
    simp [List.set_append_left _ _ (show j < r.length by omega)]
  | r :: rs, i + 1, h, hi => by
    have h2 := h r (by simp)
    have h1 := flatten_set m j y hj rs i (fun x hx => h x (List.mem_cons_of_mem _ hx)) (by simpa using hi)
    rw [List.set_cons_succ, List.flatten_cons, List.flatten_cons, List.set_append_right _ _ (by rw [h2, Nat.succ_mul]; omega), h2, show (i + 1) * m + j - m = i * m + j from by rw [Nat.succ_mul]; omega]
    simp only [List.getD_cons_succ]
    rw [h1]

theorem OwnR.set {m : Nat} {E : TypeId} {B : Nat} {w : World} {g n c : Nat} {rs : List (List Int)} (h : OwnR m E B w (.slice (some ⟨g, 0, none⟩) n c) rs) {i j : Nat} (hi : i < rs.length) (hj : j < m) {y : Int} (hy : (Lit.int .i64 y).wf = true) :
    OwnR m E B (w.setCell ⟨g, i * m + j, none⟩ (.int .i64 y)) (.slice (some ⟨g, 0, none⟩) n c) (rs.set i ((rs.getD i []).set j y)) := by
  have hn : rs.length = n := by
    obtain ⟨_, _, hv⟩ := h.form
    cases hv; rfl
  refine ⟨fun r hr => ?_, ?_⟩
  · rcases List.mem_or_eq_of_mem_set hr with hr | rfl
    · exact h.1 r hr
    · have hm : rs.getD i [] ∈ rs := by rw [List.getD_eq_getElem?_getD, List.getElem?_eq_getElem hi]; exact List.getElem_mem _
      obtain ⟨h1, h2⟩ := h.1 _ hm
      refine ⟨by simpa using h1, fun z hz => ?_⟩
      rcases List.mem_or_eq_of_mem_set hz with hz | rfl
      · exact h2 z hz
      · exact hy
  · have h2 := h.2
    rw [hn] at h2
    rw [List.length_set, flatten_set m j y hj rs i (fun r hr => (h.1 r hr).1) hi, List.map_set, hn]
    exact (h2.stored (i * m + j) (.int .i64 y)).1
theorem OwnR.formNe {m : Nat} {E : TypeId} {B : Nat} {w : World} {v : Value} {rs : List (List Int)} (h : OwnR m E B w v rs) (h0 : 0 < rs.length) : ∃ g c, v = .slice (some ⟨g, 0, none⟩) rs.length c ∧ rs.length ≤ c ∧ c ≤ 9223372036854775807 ∧ B ≤ g ∧ g < w.heap.size := by
  rcases h.2.2 with ⟨_, h1⟩ | ⟨g, cap, cur, hv, hb, hg, hn, hm, _⟩
  · omega
  · unfold maxLen at hm
    exact ⟨g, cap, hv, hn, hm, hb, (Array.getElem?_eq_some_iff.1 hg).1⟩
theorem OwnR.at {m : Nat} {E : TypeId} {B : Nat} {w : World} {g n c : Nat} {rs : List (List Int)} (h : OwnR m E B w (.slice (some ⟨g, 0, none⟩) n c) rs) {i j : Nat} (hi : i < rs.length) (hj : j < m) :
    w.cell? ⟨g, i * m + j, none⟩ = some (.int .i64 ((rs.getD i []).getD j 0)) ∧ w.frozen? ⟨g, i * m + j, none⟩ = false := by
  obtain ⟨_, a, c', hv, _, _, hc⟩ := h.recs
  cases hv
  obtain ⟨b, off, e, hcell⟩ := hc i hi
  cases e
  have := hcell j hj
  rw [Nat.zero_add] at this
  refine ⟨this, ?_⟩
  rcases h.2.2 with ⟨h', _⟩ | ⟨g', cap, cur, h', _, hg, _⟩
  · cases h'
  · cases h'
    exact frozen_no hg _
end Go.Proofs.Ytapagllebpcnhaa
