/- The reference's row of things. -/
import Derived.Test.YtbbljpkboojjhaaThPush
import Derived.Test.YtbbljpkboojjhaaTreeS
namespace Go.Proofs.Ytbbljpkboojjhaa
open Go.RowKit

def OwnR (D : Int → Th) (B : Nat) (w : World) (v : Value) (q : List Int) : Prop :=
  (v = .slice none 0 0 ∧ q = []) ∨ ∃ g cap cur, v = .slice (some ⟨g, 0, none⟩) q.length cap ∧ B ≤ g ∧ w.heap[g]? = some (.cells cur 71 (0, 0)) ∧ q.length ≤ cap ∧ cap ≤ maxLen ∧ cur.size = cap * 3 ∧ RowT D cur q

theorem OwnR.row {D : Int → Th} {B : Nat} {w : World} {v : Value} {q : List Int} (h : OwnR D B w v q) : w.ownsRow B 71 3 v q.length (q.flatMap (cellsT D)) := by
  refine ⟨flatT_length D q, ?_⟩
  rcases h with ⟨rfl, rfl⟩ | ⟨g, cap, cur, rfl, hb, hg, hn, hm, hs, hr⟩
  · exact .inl ⟨rfl, rfl⟩
  · refine .inr ⟨g, cap, cur, rfl, hb, hg, hn, hm, hs, ?_⟩
    apply List.ext_getElem?
    intro m
    by_cases hm : m < q.length * 3
    · obtain ⟨i, k, rfl, hk⟩ : ∃ i k, m = i * 3 + k ∧ k < 3 := ⟨m / 3, m % 3, by omega, by omega⟩
      have hi : i < q.length := by omega
      rw [List.getElem?_take, if_pos hm, flatT_get D q i k hi hk, Array.getElem?_toList]
      obtain ⟨r0, r1, r2⟩ := hr i hi
      rcases (show k = 0 ∨ k = 1 ∨ k = 2 by omega) with rfl | rfl | rfl
      · rw [Nat.add_zero, r0]; rfl
      · rw [r1]; rfl
      · rw [r2]; rfl
    · rw [List.getElem?_take, if_neg hm, List.getElem?_eq_none (by rw [flatT_length]; omega)]
theorem OwnR.of_row {D : Int → Th} {B : Nat} {w : World} {v : Value} {q : List Int} (h : w.ownsRow B 71 3 v q.length (q.flatMap (cellsT D))) : OwnR D B w v q := by
  obtain ⟨_, h3⟩ := h
  rcases h3 with ⟨rfl, h0⟩ | ⟨g, cap, cur, rfl, hb, hg, hn, hm, hs, ht⟩
  · exact .inl ⟨rfl, List.eq_nil_of_length_eq_zero h0⟩
  · refine .inr ⟨g, cap, cur, rfl, hb, hg, hn, hm, hs, fun i hi => ?_⟩
    have key : ∀ k, k < 3 → cur[i * 3 + k]? = (cellsT D (q.getD i 0))[k]? := fun k hk => by
      have := flatT_get D q i k hi hk
      rw [← ht, List.getElem?_take, if_pos (by omega), Array.getElem?_toList] at this
      exact this
    exact ⟨key 0 (by omega), key 1 (by omega), key 2 (by omega)⟩
theorem OwnR.nil (D : Int → Th) (B : Nat) (w : World) : OwnR D B w (.slice none 0 0) [] := .inl ⟨rfl, rfl⟩
theorem OwnR.form {D : Int → Th} {B : Nat} {w : World} {v : Value} {q : List Int} (h : OwnR D B w v q) : ∃ a c, v = .slice a q.length c := by
  rcases h with ⟨rfl, rfl⟩ | ⟨g, cap, cur, rfl, _⟩
  · exact ⟨none, 0, rfl⟩
  · exact ⟨_, _, rfl⟩
theorem OwnR.len {D : Int → Th} {B : Nat} {w : World} {a : Option Addr} {n c : Nat} {q : List Int} (h : OwnR D B w (.slice a n c) q) : q.length = n := by
  obtain ⟨_, _, hv⟩ := h.form
  cases hv; rfl
theorem OwnR.fr {S : Nat → Prop} {D : Int → Th} {B : Nat} {w w' : World} {v : Value} {q : List Int} (h : OwnR D B w v q) (f : Fr S w w') (hs : ∀ b, v.ownBlock = some b → ¬ S b) : OwnR D B w' v q := by
  rcases h with h | ⟨g, cap, cur, rfl, hb, hg, rest⟩
  · exact .inl h
  · exact .inr ⟨g, cap, cur, rfl, hb, f.heap (hs g rfl) hg, rest⟩
theorem OwnR.keeps {D : Int → Th} {B : Nat} {w w' : World} {v : Value} {q : List Int} (h : OwnR D B w v q) (f : Keeps w w') : OwnR D B w' v q := h.fr f fun _ _ h => h
theorem OwnR.lt {D : Int → Th} {B : Nat} {w : World} {v : Value} {q : List Int} (h : OwnR D B w v q) : ∀ b, v.ownBlock = some b → B ≤ b ∧ b < w.heap.size := by
  rcases h with ⟨rfl, rfl⟩ | ⟨g, cap, cur, rfl, hb, hg, _⟩
  · intro b h; cases h
  · intro b h
    cases h
    exact ⟨hb, (Array.getElem?_eq_some_iff.1 hg).1⟩
theorem OwnR.mono {D : Int → Th} {B B' : Nat} {w : World} {v : Value} {q : List Int} (h : OwnR D B w v q) (hB : B' ≤ B) : OwnR D B' w v q := by
  rcases h with h | ⟨g, cap, cur, rfl, hb, rest⟩
  · exact .inl h
  · exact .inr ⟨g, cap, cur, rfl, by omega, rest⟩
theorem OwnR.told {D D' : Int → Th} {B : Nat} {w : World} {v : Value} {q : List Int} (h : OwnR D B w v q) (hd : ∀ n ∈ q, D' n = D n) : OwnR D' B w v q := by
  rcases h with h | ⟨g, cap, cur, rfl, hb, hg, hn, hm, hs, hr⟩
  · exact .inl h
  · refine .inr ⟨g, cap, cur, rfl, hb, hg, hn, hm, hs, fun i hi => ?_⟩
    have hmem : q.getD i 0 ∈ q := by rw [List.getD_eq_getElem?_getD, List.getElem?_eq_getElem hi]; exact List.getElem_mem _
    rw [hd _ hmem]
    exact hr i hi
theorem OwnR.at {D : Int → Th} {B : Nat} {w : World} {v : Value} {q : List Int} (h : OwnR D B w v q) {i : Nat} (hi : i < q.length) :
    ∃ g c, v = .slice (some ⟨g, 0, none⟩) q.length c ∧ B ≤ g ∧ w.cell? ⟨g, i * 3, none⟩ = some (.int .i64 (D (q.getD i 0)).wt) ∧ w.cell? ⟨g, i * 3 + 1, none⟩ = some (.int .i64 (q.getD i 0)) ∧
      w.cell? ⟨g, i * 3 + 2, none⟩ = some (.slice (D (q.getD i 0)).a (D (q.getD i 0)).l (D (q.getD i 0)).c) ∧ (∀ k, w.frozen? ⟨g, k, none⟩ = false) ∧ q.length ≤ c := by
  rcases h with ⟨rfl, rfl⟩ | ⟨g, cap, cur, rfl, hb, hg, hn, hm, hs, hr⟩
  · simp at hi
  · obtain ⟨r0, r1, r2⟩ := hr i hi
    exact ⟨g, cap, rfl, hb, by rw [cell_of_row _ _ _ _ _ _ hg]; exact r0, by rw [cell_of_row _ _ _ _ _ _ hg]; exact r1, by rw [cell_of_row _ _ _ _ _ _ hg]; exact r2, fun k => frozen_no hg k, hn⟩
theorem OwnR.take {D : Int → Th} {B : Nat} {w : World} {a : Option Addr} {n c j : Nat} {q : List Int} (h : OwnR D B w (.slice a n c) q) (hj : j ≤ n) : OwnR D B w (.slice a j c) (q.take j) := by
  have hl := h.len
  rcases h with ⟨hv, rfl⟩ | ⟨g, cap, cur, hv, hb, hg, hn, hm, hs, hr⟩
  · cases hv
    obtain rfl : j = 0 := by omega
    exact .inl ⟨rfl, rfl⟩
  · cases hv
    have hlt : (q.take j).length = j := by rw [List.length_take]; omega
    refine .inr ⟨g, c, cur, by rw [hlt], hb, hg, by omega, hm, hs, fun i hi => ?_⟩
    have e : (q.take j).getD i 0 = q.getD i 0 := by
      rw [hlt] at hi
      simp [List.getD_eq_getElem?_getD, hi]
    rw [e]
    exact hr i (by omega)
section
variable {w : World} {t : TypeId} {z : Value} {bytes B : Nat} {D : Int → Th} {q : List Int} {n : Int}
/-- a thing appended to what is owned -/
theorem wpList_rthing {ops : Array Oper} {rest : List Oper} {o : Oper} {a : Act} {Q : Exit → Act → World → Prop} {cs : Array Value} (hgd : o.guard = none) (s x : Operand)
    (ho : o.op = .call { callee := .builtin .append, args := #[s, x], argTypes := #[t, t] }) (he : Elem Try.prog t 71 z 3 bytes) (v : Value) (hs : a.eval s = v) (hx : a.eval x = .slice (some ⟨w.heap.size, 0, none⟩) 1 1) (hown : OwnR D B w v q)
    (hcs : cs = (cellsT D n).toArray) (hroom : (q.length + 1) * bytes ≤ 140737488355328) (hB : B ≤ w.heap.size)
    (h : ∀ v' w', OwnR D B w' v' (q ++ [n]) → Fr (fun j => v.ownBlock = some j) w w' → (v'.ownBlock = v.ownBlock ∨ v'.ownBlock = some (w.heap.size + 1)) → wpList Try.prog ops Q rest (a.put o.dst v') w') : wpList Try.prog ops Q (o :: rest) a (w.alloc (.cells cs 71)) :=
  wpList_app hgd s x ho he v hs hx (hown.keeps ((Fr.refl _ _).alloc _)).row (cellsT_one hcs) (cellsT_whole D n) hroom (by simp; omega) fun v' w' h2 h3 h4 => h v' w'
    (OwnR.of_row (by rw [← flatT_snoc]; simpa using h2)) (((Fr.refl _ _).alloc _).trans h3 fun _ _ h => h) (by simpa using h4)
end

theorem elemR : Elem Try.prog 69 71 (.agg #[.int .i64 0, .int .i64 0, .slice none 0 0]) 3 40 := Elem.mk' Try.underlying69 (by kernel_rfl) rfl (by decide) (by decide)
end Go.Proofs.Ytbbljpkboojjhaa
