/- A row of things that the call owns: bytes with a weight, that came as the n-th; 'D' tells of each number its weight and its bytes' slice. -/
import Derived.Test.YtbbljpkboojjhaaThHeap
import Derived.Test.YtbbljpkboojjhaaHeapS
import Derived.Deep.RegionLaw
namespace Go.Proofs.Ytbbljpkboojjhaa
open Go.RowKit

structure Th where
  wt : Int
  a : Option Addr
  l : Nat
  c : Nat
def cellsT (D : Int → Th) (n : Int) : List Value := [.int .i64 (D n).wt, .int .i64 n, .slice (D n).a (D n).l (D n).c]
/-- the row's cells -/
def RowT (D : Int → Th) (cur : Array Value) (q : List Int) : Prop := ∀ i, i < q.length → cur[i * 3]? = some (.int .i64 (D (q.getD i 0)).wt) ∧ cur[i * 3 + 1]? = some (.int .i64 (q.getD i 0)) ∧
  cur[i * 3 + 2]? = some (.slice (D (q.getD i 0)).a (D (q.getD i 0)).l (D (q.getD i 0)).c)
def OwnT (D : Int → Th) (B : Nat) (w : World) (v : Value) (q : List Int) : Prop :=
  (v = .slice none 0 0 ∧ q = []) ∨ ∃ g cap cur, v = .slice (some ⟨g, 0, none⟩) q.length cap ∧ B ≤ g ∧ w.heap[g]? = some (.cells cur 63 (0, 0)) ∧ q.length ≤ cap ∧ cap ≤ maxLen ∧ cur.size = cap * 3 ∧ RowT D cur q

theorem flatT_get (D : Int → Th) : ∀ (q : List Int) (i k : Nat), i < q.length → k < 3 → (q.flatMap (cellsT D))[i * 3 + k]? = (cellsT D (q.getD i 0))[k]?
  | [], _, _, h, _ => by simp at h
  | x :: q, 0, k, _, hk => by
    rw [List.flatMap_cons, List.getElem?_append_left (by simp [cellsT]; omega), Nat.zero_mul, Nat.zero_add]
    rfl
  | x :: q, i + 1, k, h, hk => by
    have := flatT_get D q i k (by simpa using h) hk
    rw [List.flatMap_cons, List.getElem?_append_right (by simp [cellsT]; omega), show (i + 1) * 3 + k - (cellsT D x).length = i * 3 + k by simp [cellsT]; omega, this]
    rfl
theorem flatT_length (D : Int → Th) : ∀ q : List Int, (q.flatMap (cellsT D)).length = q.length * 3
  | [] => rfl
  | x :: q => by
    rw [List.flatMap_cons, List.length_append, flatT_length D q]
    simp [cellsT]; omega
theorem OwnT.row {D : Int → Th} {B : Nat} {w : World} {v : Value} {q : List Int} (h : OwnT D B w v q) : w.ownsRow B 63 3 v q.length (q.flatMap (cellsT D)) := by
  refine ⟨flatT_length D q, ?_⟩
  rcases h with ⟨rfl, rfl⟩ | ⟨g, cap, cur, rfl, hb, hg, hn, hm, hs, hr⟩
  · exact .inl ⟨rfl, rfl⟩
  · refine .inr ⟨g, cap, cur, rfl, hb, hg, hn, hm, hs, ?_⟩
    apply List.ext_getElem?
    intro m
    by_cases hm : m < q.length * 3
    · obtain ⟨i, k, rfl, hk⟩ : ∃ i k, m = i * 3 + k ∧ k < 3 := ⟨m / 3, m % 3, by omega, by omega⟩
      have hi : i < q.length := by omega
      rw [List.getElem?_take, if_pos hm, flatT_get D q i k hi hk, Array.getElem?_toList]
      obtain ⟨r0, r1, r2⟩ := hr i hi
      rcases (show k = 0 ∨ k = 1 ∨ k = 2 by omega) with rfl | rfl | rfl
      · rw [Nat.add_zero, r0]; rfl
      · rw [r1]; rfl
      · rw [r2]; rfl
    · rw [List.getElem?_take, if_neg hm, List.getElem?_eq_none (by rw [flatT_length]; omega)]
theorem OwnT.of_row {D : Int → Th} {B : Nat} {w : World} {v : Value} {q : List Int} (h : w.ownsRow B 63 3 v q.length (q.flatMap (cellsT D))) : OwnT D B w v q := by
  obtain ⟨_, h3⟩ := h
  rcases h3 with ⟨rfl, h0⟩ | ⟨g, cap, cur, rfl, hb, hg, hn, hm, hs, ht⟩
  · exact .inl ⟨rfl, List.eq_nil_of_length_eq_zero h0⟩
  · refine .inr ⟨g, cap, cur, rfl, hb, hg, hn, hm, hs, fun i hi => ?_⟩
    have key : ∀ k, k < 3 → cur[i * 3 + k]? = (cellsT D (q.getD i 0))[k]? := fun k hk => by
      have := flatT_get D q i k hi hk
      rw [← ht, List.getElem?_take, if_pos (by omega), Array.getElem?_toList] at this
      exact this
    exact ⟨key 0 (by omega), key 1 (by omega), key 2 (by omega)⟩
theorem OwnT.nil (D : Int → Th) (B : Nat) (w : World) : OwnT D B w (.slice none 0 0) [] := .inl ⟨rfl, rfl⟩
theorem OwnT.form {D : Int → Th} {B : Nat} {w : World} {v : Value} {q : List Int} (h : OwnT D B w v q) : ∃ a c, v = .slice a q.length c := by
  rcases h with ⟨rfl, rfl⟩ | ⟨g, cap, cur, rfl, _⟩
  · exact ⟨none, 0, rfl⟩
  · exact ⟨_, _, rfl⟩
theorem OwnT.len {D : Int → Th} {B : Nat} {w : World} {a : Option Addr} {n c : Nat} {q : List Int} (h : OwnT D B w (.slice a n c) q) : q.length = n := by
  obtain ⟨_, _, hv⟩ := h.form
  cases hv; rfl
theorem OwnT.fr {S : Nat → Prop} {D : Int → Th} {B : Nat} {w w' : World} {v : Value} {q : List Int} (h : OwnT D B w v q) (f : Fr S w w') (hs : ∀ b, v.ownBlock = some b → ¬ S b) : OwnT D B w' v q := by
  rcases h with h | ⟨g, cap, cur, rfl, hb, hg, rest⟩
  · exact .inl h
  · exact .inr ⟨g, cap, cur, rfl, hb, f.heap (hs g rfl) hg, rest⟩
theorem OwnT.keeps {D : Int → Th} {B : Nat} {w w' : World} {v : Value} {q : List Int} (h : OwnT D B w v q) (f : Keeps w w') : OwnT D B w' v q := h.fr f fun _ _ h => h
theorem OwnT.lt {D : Int → Th} {B : Nat} {w : World} {v : Value} {q : List Int} (h : OwnT D B w v q) : ∀ b, v.ownBlock = some b → B ≤ b ∧ b < w.heap.size := by
  rcases h with ⟨rfl, rfl⟩ | ⟨g, cap, cur, rfl, hb, hg, _⟩
  · intro b h; cases h
  · intro b h
    cases h
    exact ⟨hb, (Array.getElem?_eq_some_iff.1 hg).1⟩
theorem OwnT.mono {D : Int → Th} {B B' : Nat} {w : World} {v : Value} {q : List Int} (h : OwnT D B w v q) (hB : B' ≤ B) : OwnT D B' w v q := by
  rcases h with h | ⟨g, cap, cur, rfl, hb, rest⟩
  · exact .inl h
  · exact .inr ⟨g, cap, cur, rfl, by omega, rest⟩
/-- the tale may turn where no number stands -/
theorem OwnT.told {D D' : Int → Th} {B : Nat} {w : World} {v : Value} {q : List Int} (h : OwnT D B w v q) (hd : ∀ n ∈ q, D' n = D n) : OwnT D' B w v q := by
  rcases h with h | ⟨g, cap, cur, rfl, hb, hg, hn, hm, hs, hr⟩
  · exact .inl h
  · refine .inr ⟨g, cap, cur, rfl, hb, hg, hn, hm, hs, fun i hi => ?_⟩
    have hmem : q.getD i 0 ∈ q := by rw [List.getD_eq_getElem?_getD, List.getElem?_eq_getElem hi]; exact List.getElem_mem _
    rw [hd _ hmem]
    exact hr i hi
theorem OwnT.at {D : Int → Th} {B : Nat} {w : World} {v : Value} {q : List Int} (h : OwnT D B w v q) {i : Nat} (hi : i < q.length) :
    ∃ g c, v = .slice (some ⟨g, 0, none⟩) q.length c ∧ B ≤ g ∧ w.cell? ⟨g, i * 3, none⟩ = some (.int .i64 (D (q.getD i 0)).wt) ∧ w.cell? ⟨g, i * 3 + 1, none⟩ = some (.int .i64 (q.getD i 0)) ∧
      w.cell? ⟨g, i * 3 + 2, none⟩ = some (.slice (D (q.getD i 0)).a (D (q.getD i 0)).l (D (q.getD i 0)).c) ∧ (∀ k, w.frozen? ⟨g, k, none⟩ = false) ∧ q.length ≤ c := by
  rcases h with ⟨rfl, rfl⟩ | ⟨g, cap, cur, rfl, hb, hg, hn, hm, hs, hr⟩
  · simp at hi
  · obtain ⟨r0, r1, r2⟩ := hr i hi
    exact ⟨g, cap, rfl, hb, by rw [cell_of_row _ _ _ _ _ _ hg]; exact r0, by rw [cell_of_row _ _ _ _ _ _ hg]; exact r1, by rw [cell_of_row _ _ _ _ _ _ hg]; exact r2, fun k => frozen_no hg k, hn⟩
theorem OwnT.take {D : Int → Th} {B : Nat} {w : World} {a : Option Addr} {n c j : Nat} {q : List Int} (h : OwnT D B w (.slice a n c) q) (hj : j ≤ n) : OwnT D B w (.slice a j c) (q.take j) := by
  have hl := h.len
  rcases h with ⟨hv, rfl⟩ | ⟨g, cap, cur, hv, hb, hg, hn, hm, hs, hr⟩
  · cases hv
    obtain rfl : j = 0 := by omega
    exact .inl ⟨rfl, rfl⟩
  · cases hv
    have hlt : (q.take j).length = j := by rw [List.length_take]; omega
    refine .inr ⟨g, c, cur, by rw [hlt], hb, hg, by omega, hm, hs, fun i hi => ?_⟩
    have e : (q.take j).getD i 0 = q.getD i 0 := by
      rw [hlt] at hi
      simp [List.getD_eq_getElem?_getD, hi]
    rw [e]
    exact hr i (by omega)
theorem OwnT.swap {D : Int → Th} {B : Nat} {w : World} {g n c i j : Nat} {q : List Int} (h : OwnT D B w (.slice (some ⟨g, 0, none⟩) n c) q) (hi : i < n) (hj : j < n) (hij : i ≠ j) {x y : Int} (hx : x = q.getD i 0) (hy : y = q.getD j 0) :
    OwnT D B ((((((w.setCell ⟨g, i * 3, none⟩ (.int .i64 (D y).wt)).setCell ⟨g, i * 3 + 1, none⟩ (.int .i64 y)).setCell ⟨g, i * 3 + 2, none⟩ (.slice (D y).a (D y).l (D y).c)).setCell ⟨g, j * 3, none⟩ (.int .i64 (D x).wt)).setCell ⟨g, j * 3 + 1, none⟩ (.int .i64 x)).setCell ⟨g, j * 3 + 2, none⟩ (.slice (D x).a (D x).l (D x).c)) (.slice (some ⟨g, 0, none⟩) n c) (swapL q i j) := by
  have hl := h.len
  rcases h with ⟨hv, rfl⟩ | ⟨g', cap, cur, hv, hb, hg, hn, hm, hs, hr⟩
  · simp at hl; omega
  · cases hv
    refine .inr ⟨g, c, _, by rw [swapL_length], hb, heap_set (heap_set (heap_set (heap_set (heap_set (heap_set hg _ _) _ _) _ _) _ _) _ _) _ _, by rw [swapL_length]; exact hn, hm, by simpa using hs, fun k hk => ?_⟩
    rw [swapL_length] at hk
    rw [swapL_get q (by omega) (by omega), ← hx, ← hy]
    by_cases e1 : k = j
    · subst e1
      rw [if_pos rfl]
      refine ⟨?_, ?_, ?_⟩
      · rw [Array.getElem?_setIfInBounds_ne (by omega), Array.getElem?_setIfInBounds_ne (by omega), Array.getElem?_setIfInBounds_self_of_lt (by simp; omega)]
      · rw [Array.getElem?_setIfInBounds_ne (by omega), Array.getElem?_setIfInBounds_self_of_lt (by simp; omega)]
      · rw [Array.getElem?_setIfInBounds_self_of_lt (by simp; omega)]
    · rw [if_neg e1]
      by_cases e2 : k = i
      · subst e2
        rw [if_pos rfl]
        refine ⟨?_, ?_, ?_⟩
        · rw [Array.getElem?_setIfInBounds_ne (by omega), Array.getElem?_setIfInBounds_ne (by omega), Array.getElem?_setIfInBounds_ne (by omega), Array.getElem?_setIfInBounds_ne (by omega), Array.getElem?_setIfInBounds_ne (by omega), Array.getElem?_setIfInBounds_self_of_lt (by omega)]
        · rw [Array.getElem?_setIfInBounds_ne (by omega), Array.getElem?_setIfInBounds_ne (by omega), Array.getElem?_setIfInBounds_ne (by omega), Array.getElem?_setIfInBounds_ne (by omega), Array.getElem?_setIfInBounds_self_of_lt (by simp; omega)]
        · rw [Array.getElem?_setIfInBounds_ne (by omega), Array.getElem?_setIfInBounds_ne (by omega), Array.getElem?_setIfInBounds_ne (by omega), Array.getElem?_setIfInBounds_self_of_lt (by simp; omega)]
      · rw [if_neg e2]
        have key : ∀ m, m < 3 → ((((((cur.setIfInBounds (i * 3) (.int .i64 (D y).wt)).setIfInBounds (i * 3 + 1) (.int .i64 y)).setIfInBounds (i * 3 + 2) (.slice (D y).a (D y).l (D y).c)).setIfInBounds (j * 3) (.int .i64 (D x).wt)).setIfInBounds (j * 3 + 1) (.int .i64 x)).setIfInBounds (j * 3 + 2) (.slice (D x).a (D x).l (D x).c))[k * 3 + m]? = cur[k * 3 + m]? := fun m hm => by
          rw [Array.getElem?_setIfInBounds_ne (by omega), Array.getElem?_setIfInBounds_ne (by omega), Array.getElem?_setIfInBounds_ne (by omega), Array.getElem?_setIfInBounds_ne (by omega), Array.getElem?_setIfInBounds_ne (by omega), Array.getElem?_setIfInBounds_ne (by omega)]
        obtain ⟨r0, r1, r2⟩ := hr k (by omega)
        exact ⟨(key 0 (by omega)).trans r0, (key 1 (by omega)).trans r1, (key 2 (by omega)).trans r2⟩

/-- the order of the things: by weight, then by number -/
def keyT (D : Int → Th) (n : Int) : Int := (D n).wt * 1024 + n
theorem key_lt {D : Int → Th} {x y : Int} (hx : 0 ≤ x ∧ x < 1024) (hy : 0 ≤ y ∧ y < 1024) : keyT D x < keyT D y ↔ (D x).wt < (D y).wt ∨ ((D x).wt = (D y).wt ∧ x < y) := by
  unfold keyT
  omega
theorem map_get (D : Int → Th) (q : List Int) {i : Nat} (h : i < q.length) : (q.map (keyT D)).getD i 0 = keyT D (q.getD i 0) := by
  simp [List.getD_eq_getElem?_getD, h]
theorem map_swap (D : Int → Th) (q : List Int) {i j : Nat} (hi : i < q.length) (hj : j < q.length) : (swapL q i j).map (keyT D) = swapL (q.map (keyT D)) i j := by
  unfold swapL
  rw [List.map_set, List.map_set, map_get D q hi, map_get D q hj]
end Go.Proofs.Ytbbljpkboojjhaa
