/- A slice of structs of m whole numbers that the call owns: rows appended to it. -/
import Derived.Test.YtkckabfbngkkpaaRecs
namespace Go.Proofs.Ytkckabfbngkkpaa
open Go.RowKit

def OwnR (m : Nat) (E : TypeId) (B : Nat) (w : World) (v : Value) (rs : List (List Int)) : Prop :=
  (∀ r ∈ rs, r.length = m ∧ ∀ z ∈ r, (Lit.int .i64 z).wf = true) ∧ w.ownsRow B E m v rs.length (rs.flatten.map (Value.int .i64))

theorem flatten_length (m : Nat) : ∀ rs : List (List Int), (∀ r ∈ rs, r.length = m) → rs.flatten.length = rs.length * m
  | [], _ => by simp
  | r :: rs, h => by
    have h1 := flatten_length m rs fun x hx => h x (List.mem_cons_of_mem _ hx)
    have h2 := h r (by simp)
    simp only [List.flatten_cons, List.length_append, List.length_cons, h1, h2, Nat.succ_mul]
    omega
theorem flatten_get (m j : Nat) (hj : j < m) : ∀ (rs : List (List Int)) (i : Nat), (∀ r ∈ rs, r.length = m) → i < rs.length → rs.flatten[i * m + j]? = some ((rs.getD i []).getD j 0)
  | [], _, _, hi => by simp at hi
  | r :: rs, 0, h, _ => by
    have h2 := h r (by simp)
    simp [List.getElem?_append_left (show j < r.length by omega), List.getElem?_eq_getElem (show j < r.length by omega)]
  | r :: rs, i + 1, h, hi => by
    have h2 := h r (by simp)
    have h1 := flatten_get m j hj rs i (fun x hx => h x (List.mem_cons_of_mem _ hx)) (by simpa using hi)
    rw [List.flatten_cons, List.getElem?_append_right (by rw [h2, Nat.succ_mul]; omega), h2, show (i + 1) * m + j - m = i * m + j from by rw [Nat.succ_mul]; omega, h1]
    simp

theorem OwnR.nil (m : Nat) (E : TypeId) (B : Nat) (w : World) : OwnR m E B w (.slice none 0 0) [] := ⟨fun z hz => by simp at hz, World.ownsRow_nil _ _ _ _⟩
theorem OwnR.fr {S : Nat → Prop} {m : Nat} {E : TypeId} {B : Nat} {w w' : World} {v : Value} {rs : List (List Int)} (h : OwnR m E B w v rs) (f : Fr S w w') (hs : ∀ b, v.ownBlock = some b → ¬ S b) : OwnR m E B w' v rs := by
  refine ⟨h.1, h.2.1, ?_⟩
  rcases h.2.2 with hn | ⟨g, cap, cur, rfl, hb, hgg, rest⟩
  · exact .inl hn
  · exact .inr ⟨g, cap, cur, rfl, hb, f.heap (hs g rfl) hgg, rest⟩
theorem OwnR.keeps {m : Nat} {E : TypeId} {B : Nat} {w w' : World} {v : Value} {rs : List (List Int)} (h : OwnR m E B w v rs) (f : Keeps w w') : OwnR m E B w' v rs := h.fr f fun _ _ h => h
theorem OwnR.lt {m : Nat} {E : TypeId} {B : Nat} {w : World} {v : Value} {rs : List (List Int)} (h : OwnR m E B w v rs) : ∀ b, v.ownBlock = some b → B ≤ b ∧ b < w.heap.size := h.2.lt
theorem OwnR.mono {m : Nat} {E : TypeId} {B B' : Nat} {w : World} {v : Value} {rs : List (List Int)} (h : OwnR m E B w v rs) (hB : B' ≤ B) : OwnR m E B' w v rs := by
  refine ⟨h.1, h.2.1, ?_⟩
  rcases h.2.2 with hn | ⟨g, cap, cur, rfl, hb, rest⟩
  · exact .inl hn
  · exact .inr ⟨g, cap, cur, rfl, by omega, rest⟩
theorem OwnR.form {m : Nat} {E : TypeId} {B : Nat} {w : World} {v : Value} {rs : List (List Int)} (h : OwnR m E B w v rs) : ∃ a c, v = .slice a rs.length c := by
  rcases h.2.2 with ⟨rfl, h0⟩ | ⟨g, cap, cur, rfl, hb, hg, hn, hm, hs, ht⟩
  · exact ⟨none, 0, by rw [h0]⟩
  · exact ⟨_, _, rfl⟩
theorem OwnR.recs {m : Nat} {E : TypeId} {B : Nat} {w : World} {v : Value} {rs : List (List Int)} (h : OwnR m E B w v rs) : Recs m w v rs := by
  refine ⟨h.1, ?_⟩
  rcases h.2.2 with ⟨rfl, h0⟩ | ⟨g, cap, cur, rfl, hb, hg, hn, hm, hs, ht⟩
  · exact ⟨none, 0, by rw [h0], by omega, by unfold maxLen; omega, fun i hi => by omega⟩
  · refine ⟨_, cap, rfl, hn, hm, fun i hi => ⟨g, 0, rfl, fun j hj => ?_⟩⟩
    have hb : i * m + j < rs.length * m := by
      have : (i + 1) * m ≤ rs.length * m := Nat.mul_le_mul_right _ hi
      rw [Nat.succ_mul] at this
      omega
    rw [show 0 + i * m + j = i * m + j from by omega, cell_of_row w g (i * m + j) cur E (0, 0) hg]
    have : (cur.toList.take (rs.length * m))[i * m + j]? = (rs.flatten.map (Value.int .i64))[i * m + j]? := by rw [ht]
    rw [List.getElem?_take, if_pos hb, List.getElem?_map, flatten_get m j hj rs i (fun r hr => (h.1 r hr).1) hi] at this
    simpa using this

section
variable {P : Program} {w : World} {t E : TypeId} {z : Value} {m bytes B : Nat} {rs : List (List Int)} {r : List Int}

/-- a row just made, as a slice of one struct -/
theorem cells_one {cs : Array Value} (hl : r.length = m) (hcs : cs = (r.map (Value.int .i64)).toArray) : Cells (w.alloc (.cells cs E)) (.slice (some ⟨w.heap.size, 0, none⟩) 1 1) 1 m (r.map (Value.int .i64)) := by
  subst hcs
  refine ⟨by simp [hl], some ⟨w.heap.size, 0, none⟩, 1, rfl, by omega, by unfold maxLen; omega, (fun h => by cases h), fun i hi => ⟨w.heap.size, 0, rfl, ?_⟩⟩
  rw [Nat.zero_add, World.cell?_alloc_new]
  simp

/-- a row appended to what is owned -/
theorem wpList_rec {ops : Array Oper} {rest : List Oper} {o : Oper} {a : Act} {Q : Exit → Act → World → Prop} {cs : Array Value} (hgd : o.guard = none) (s x : Operand)
    (ho : o.op = .call { callee := .builtin .append, args := #[s, x], argTypes := #[t, t] }) (he : Elem P t E z m bytes) (v : Value) (hs : a.eval s = v) (hx : a.eval x = .slice (some ⟨w.heap.size, 0, none⟩) 1 1) (hown : OwnR m E B w v rs)
    (hl : r.length = m) (hw : ∀ z ∈ r, (Lit.int .i64 z).wf = true) (hcs : cs = (r.map (Value.int .i64)).toArray)
    (hroom : (rs.length + 1) * bytes ≤ 140737488355328) (hB : B ≤ w.heap.size)
    (h : ∀ v' w', OwnR m E B w' v' (rs ++ [r]) → Fr (fun j => v.ownBlock = some j) w w' → (v'.ownBlock = v.ownBlock ∨ ∀ k, v'.ownBlock = some k → w.heap.size ≤ k) → wpList P ops Q rest (a.put o.dst v') w') : wpList P ops Q (o :: rest) a (w.alloc (.cells cs E)) :=
  wpList_app hgd s x ho he v hs hx (hown.keeps ((Fr.refl _ _).alloc _)).2 (cells_one hl hcs) (oneCells .i64 r) hroom (by simp; omega) fun v' w' h2 h3 h4 => h v' w'
    ⟨fun y hy => by
      rcases List.mem_append.1 hy with hy | hy
      · exact hown.1 y hy
      · simp at hy; subst hy; exact ⟨hl, hw⟩, by simpa using h2⟩ (((Fr.refl _ _).alloc _).trans h3 fun _ _ h => h) (by
      rcases h4 with h4 | h4
      · exact .inl h4
      · exact .inr fun k hk => by rw [h4] at hk; cases hk; simp)
end
end Go.Proofs.Ytkckabfbngkkpaa
