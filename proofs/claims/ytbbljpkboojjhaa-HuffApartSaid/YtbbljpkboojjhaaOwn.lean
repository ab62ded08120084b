/- Laws on append for a slice that the call owns: whatever is appended, and where the new slice lies. -/
import Derived.Test.YtbbljpkboojjhaaHeap
import Derived.Maps.AppendAt
import Derived.Laws.AppendOwnNone
import Derived.Deep.AppendLies
namespace Go.Proofs.Ytbbljpkboojjhaa
open Go.RowKit

/-- What the laws want of a slice's type t and its element's type E. -/
structure Elem (P : Program) (t E : TypeId) (z : Value) (size bytes : Nat) : Prop where
  und : P.underlying t = some (.slice E)
  info : ∃ i, P.info? E = some i ∧ i.zero = some z ∧ i.size = size ∧ i.bytes = bytes
  zs : z.cells.size = size
  pos : 0 < size
  posb : 0 < bytes

theorem Elem.mk' {P : Program} {t E : TypeId} {z : Value} {size bytes : Nat} (h : P.underlying t = some (.slice E)) (hi : (P.info? E).map (fun i => (i.zero, i.size, i.bytes)) = some (some z, size, bytes))
    (hz : z.cells.size = size) (hp : 0 < size) (hb : 0 < bytes) : Elem P t E z size bytes := by
  obtain ⟨i, h1, h2, h3, h4⟩ := info_parts hi
  exact ⟨h, ⟨i, h1, h2, h3, h4⟩, hz, hp, hb⟩

/-- A slice of n elements of 'size' cells each: its cells are 'cs'. -/
def Cells (w : World) (v : Value) (n size : Nat) (cs : List Value) : Prop :=
  cs.length = n * size ∧ ∃ a cap, v = .slice a n cap ∧ n ≤ cap ∧ cap ≤ maxLen ∧ (a = none → cap = 0) ∧ ∀ i, i < n * size → ∃ b off, a = some ⟨b, off, none⟩ ∧ w.cell? ⟨b, off + i, none⟩ = cs[i]?

theorem Ints.cells {k : IntKind} {w : World} {v : Value} {zs : List Int} (h : Ints k w v zs) : Cells w v zs.length 1 (zs.map (Value.int k)) := by
  obtain ⟨h1, a, cap, rfl, h2, h3, h4, h5⟩ := h
  refine ⟨by simp, a, cap, rfl, h2, h3, h4, fun i hi => ?_⟩
  obtain ⟨b, off, rfl, hc⟩ := h5 i (by omega)
  exact ⟨b, off, rfl, by rw [hc]; simp [List.getD_eq_getElem?_getD, List.getElem?_eq_getElem (show i < zs.length by omega)]⟩

theorem Ints.take {k : IntKind} {w : World} {a : Option Addr} {n c : Nat} {zs : List Int} (h : Ints k w (.slice a n c) zs) {j : Nat} (hj : j ≤ n) : Ints k w (.slice a j c) (zs.take j) := by
  obtain ⟨h1, a', cap, hv, h2, h3, h4, h5⟩ := h
  cases hv
  have hl : (zs.take j).length = j := by rw [List.length_take]; omega
  refine ⟨fun z hz => h1 z (List.mem_of_mem_take hz), a, c, by rw [hl], by omega, h3, h4, fun i hi => ?_⟩
  obtain ⟨b, off, e, hc⟩ := h5 i (by omega)
  exact ⟨b, off, e, by rw [hc]; simp [List.getD_eq_getElem?_getD, show i < j by omega]⟩
theorem Ints.drop {k : IntKind} {w : World} {a : Option Addr} {n c : Nat} {zs : List Int} (h : Ints k w (.slice a n c) zs) {j : Nat} (hj : j ≤ n) :
    Ints k w (.slice (if c = j then a else a.map (·.add j)) (n - j) (c - j)) (zs.drop j) := by
  obtain ⟨h1, a', cap, hv, h2, h3, h4, h5⟩ := h
  cases hv
  have hl : (zs.drop j).length = zs.length - j := by rw [List.length_drop]
  refine ⟨fun z hz => h1 z (List.mem_of_mem_drop hz), _, c - j, by rw [hl], by omega, by omega, ?_, fun i hi => ?_⟩
  · intro h
    split at h
    · omega
    · cases a with
      | none => have := h4 rfl; omega
      | some x => cases h
  · obtain ⟨b, off, e, hc⟩ := h5 (j + i) (by omega)
    refine ⟨b, off + j, ?_, ?_⟩
    · rw [if_neg (by omega), e]
      simp only [Option.map_some, Addr.add]
      split <;> simp_all
    · rw [show off + j + i = off + (j + i) from by omega, hc]
      simp [List.getD_eq_getElem?_getD]
theorem Ints.dropAt {k : IntKind} {w : World} {b off n c : Nat} {zs : List Int} (h : Ints k w (.slice (some ⟨b, off, none⟩) n c) zs) {j : Nat} (hj : j ≤ n) (hc : j < c) :
    Ints k w (.slice (some ⟨b, off + j, none⟩) (n - j) (c - j)) (zs.drop j) := by
  have h' := h.drop hj
  rw [if_neg (by omega)] at h'
  have e : (⟨b, off, none⟩ : Addr).add j = ⟨b, off + j, none⟩ := by unfold Addr.add; split <;> simp_all
  simpa [e] using h'
theorem Ints.len {k : IntKind} {w : World} {a : Option Addr} {n c : Nat} {zs : List Int} (h : Ints k w (.slice a n c) zs) : zs.length = n ∧ n ≤ c ∧ c ≤ 9223372036854775807 := by
  obtain ⟨h1, a', cap, hv, h2, h3, _⟩ := h
  cases hv
  unfold maxLen at h3
  exact ⟨rfl, h2, h3⟩
theorem Ints.len' {k : IntKind} {w : World} {v : Value} {zs : List Int} (h : Ints k w v zs) : zs.length ≤ 9223372036854775807 := by
  obtain ⟨_, a, cap, _, h2, h3, _⟩ := h
  unfold maxLen at h3
  omega
theorem Ints.form {k : IntKind} {w : World} {v : Value} {zs : List Int} (h : Ints k w v zs) : ∃ a c, v = .slice a zs.length c := by
  obtain ⟨_, a, c, hv, _⟩ := h
  exact ⟨a, c, hv⟩

theorem Cells.fr {S : Nat → Prop} {w w' : World} {v : Value} {n size : Nat} {cs : List Value} (h : Cells w v n size cs) (f : Fr S w w') (hs : ∀ x n c, v = .slice (some x) n c → 0 < n → ¬ S x.block) : Cells w' v n size cs := by
  obtain ⟨h0, a, cap, rfl, h2, h3, h4, h5⟩ := h
  refine ⟨h0, a, cap, rfl, h2, h3, h4, fun i hi => ?_⟩
  obtain ⟨b, off, rfl, hc⟩ := h5 i hi
  refine ⟨b, off, rfl, ?_⟩
  have hn : 0 < n := by
    rcases Nat.eq_zero_or_pos n with h | h
    · subst h; simp at hi
    · exact h
  rw [List.getElem?_eq_getElem (by omega)] at hc ⊢
  exact f.cell (p := ⟨b, off + i, none⟩) (hs ⟨b, off, none⟩ _ _ rfl hn) hc
theorem Cells.keeps {w w' : World} {v : Value} {n size : Nat} {cs : List Value} (h : Cells w v n size cs) (f : Keeps w w') : Cells w' v n size cs := h.fr f fun _ _ _ _ _ h => h

theorem cells_of_owns {w : World} {B E size : Nat} {v : Value} {n : Nat} {cs : List Value} (h : w.ownsRow B E size v n cs) : Cells w v n size cs := by
  obtain ⟨h2, h3⟩ := h
  refine ⟨h2, ?_⟩
  rcases h3 with ⟨rfl, h0⟩ | ⟨g, cap, cur, rfl, hb, hg, hn, hm, hs, ht⟩
  · subst h0
    exact ⟨none, 0, rfl, by omega, by unfold maxLen; omega, fun _ => rfl, fun i hi => by simp at hi⟩
  · refine ⟨_, cap, rfl, hn, hm, (fun h => by cases h), fun i hi => ⟨g, 0, rfl, ?_⟩⟩
    rw [Nat.zero_add, cell_of_row w g i cur E (0, 0) hg, ← ht, List.getElem?_take, if_pos hi]
    simp

section
variable {P : Program} {w : World} {t E : TypeId} {z : Value} {size bytes B : Nat} {u : Value} {n m : Nat} {xs ys : List Value}

theorem run_app (ty : TypeId) (he : Elem P t E z size bytes) {v : Value} (hown : w.ownsRow B E size v n xs) (hc : Cells w u m size ys) (h1 : ∀ y ∈ ys, y.oneCell' = true)
    (hroom : (n + m) * bytes ≤ 140737488355328) (hB : B ≤ w.heap.size) :
    ∃ v' w', (Builtin.append_ #[t, t] ty #[v, u]).run P w = .ok v' w' ∧ w'.ownsRow B E size v' (n + m) (xs ++ ys) ∧ Fr (fun j => v.ownBlock = some j) w w' ∧ (v'.ownBlock = v.ownBlock ∨ v'.ownBlock = some w.heap.size) := by
  obtain ⟨hund, ⟨i, hi, hz0, hz1, hz2⟩, hzs, hpos, hposb⟩ := he
  obtain ⟨hl, a, cap, rfl, h2, h3, h4, h5⟩ := hc
  cases a with
  | none =>
    have : cap = 0 := h4 rfl
    subst this
    have : m = 0 := by omega
    subst this
    have : ys = [] := List.eq_nil_of_length_eq_zero (by simpa using hl)
    subst this
    have hr := run_append_owned_none (P := P) (w := w) B t ty E i size hund hi v n xs hown
    exact ⟨v, w, hr, by simpa using hown, Fr.refl _ _, .inl rfl⟩
  | some x =>
    have h63 : n + m ≤ maxLen := by
      have : (n + m) * 1 ≤ (n + m) * bytes := Nat.mul_le_mul_left _ hposb
      unfold maxLen; omega
    obtain ⟨v', w', hr, ho, hg, _, hat⟩ := run_append_own_at (P := P) w B t ty E i z size bytes hund hi hz0 hz1 hz2 hzs hpos v n xs hown x m cap ys hl (fun j u hu => by
      have hj : j < ys.length := (List.getElem?_eq_some_iff.1 hu).1
      obtain ⟨b, off, hx', hc⟩ := h5 j (by omega)
      cases hx'
      rw [show (⟨b, off, none⟩ : Addr).add j = ⟨b, off + j, none⟩ from by unfold Addr.add; split <;> simp_all, hc, hu]) h1 h63 hroom hB
    exact ⟨v', w', hr, ho, (Fr.refl _ _).grown hg (fun k hk _ => hk), hat⟩

theorem wp_app {o : Oper} {a : Act} {K : Act → World → Prop} {Q : Exit → Act → World → Prop} (s x : Operand)
    (ho : o.op = .call { callee := .builtin .append, args := #[s, x], argTypes := #[t, t] }) (he : Elem P t E z size bytes) (v : Value) (hs : a.eval s = v) (hx : a.eval x = u) (hown : w.ownsRow B E size v n xs) (hc : Cells w u m size ys) (h1 : ∀ y ∈ ys, y.oneCell' = true)
    (hroom : (n + m) * bytes ≤ 140737488355328) (hB : B ≤ w.heap.size)
    (h : ∀ v' w', w'.ownsRow B E size v' (n + m) (xs ++ ys) → Fr (fun j => v.ownBlock = some j) w w' → (v'.ownBlock = v.ownBlock ∨ v'.ownBlock = some w.heap.size) → K (a.put o.dst v') w') : o.wp P a w K Q := by
  obtain ⟨v', w', hr, h2, h3, h4⟩ := run_app (P := P) o.type he hown hc h1 hroom hB
  unfold Oper.wp execOp
  simp only [ho, resolve, invoke, builtin, Sem.run_bind, Sem.run_pure, Result.andThen_ok, List.map_toArray, List.map_cons, List.map_nil, hs, hx, hr]
  exact h v' w' h2 h3 h4

theorem wpList_app {ops : Array Oper} {rest : List Oper} {o : Oper} {a : Act} {Q : Exit → Act → World → Prop} (hgd : o.guard = none) (s x : Operand)
    (ho : o.op = .call { callee := .builtin .append, args := #[s, x], argTypes := #[t, t] }) (he : Elem P t E z size bytes) (v : Value) (hs : a.eval s = v) (hx : a.eval x = u) (hown : w.ownsRow B E size v n xs) (hc : Cells w u m size ys) (h1 : ∀ y ∈ ys, y.oneCell' = true)
    (hroom : (n + m) * bytes ≤ 140737488355328) (hB : B ≤ w.heap.size)
    (h : ∀ v' w', w'.ownsRow B E size v' (n + m) (xs ++ ys) → Fr (fun j => v.ownBlock = some j) w w' → (v'.ownBlock = v.ownBlock ∨ v'.ownBlock = some w.heap.size) → wpList P ops Q rest (a.put o.dst v') w') : wpList P ops Q (o :: rest) a w :=
  wpList_plain hgd fun _ hK => wp_app s x ho he v hs hx hown hc h1 hroom hB fun v' w' h2 h3 h4 => hK _ _ (h v' w' h2 h3 h4)
end

theorem oneCells (k : IntKind) (zs : List Int) : ∀ y ∈ zs.map (Value.int k), y.oneCell' = true := by
  intro y hy
  obtain ⟨z, _, rfl⟩ := List.mem_map.1 hy
  rfl

section
variable {P : Program} {w : World} {t E : TypeId} {k : IntKind} {bytes B : Nat} {u : Value} {zs ys : List Int}

/-- numbers: some appended to what is owned -/
theorem wpList_ints {ops : Array Oper} {rest : List Oper} {o : Oper} {a : Act} {Q : Exit → Act → World → Prop} (hgd : o.guard = none) (s x : Operand)
    (ho : o.op = .call { callee := .builtin .append, args := #[s, x], argTypes := #[t, t] }) (he : Elem P t E (.int k 0) 1 bytes) (v : Value) (hs : a.eval s = v) (hx : a.eval x = u) (hown : Own k E B w v zs) (hc : Ints k w u ys)
    (hroom : (zs.length + ys.length) * bytes ≤ 140737488355328) (hB : B ≤ w.heap.size)
    (h : ∀ v' w', Own k E B w' v' (zs ++ ys) → Fr (fun j => v.ownBlock = some j) w w' → (v'.ownBlock = v.ownBlock ∨ v'.ownBlock = some w.heap.size) → wpList P ops Q rest (a.put o.dst v') w') : wpList P ops Q (o :: rest) a w :=
  wpList_app hgd s x ho he v hs hx hown.2 hc.cells (oneCells k ys) hroom hB fun v' w' h2 h3 h4 => h v' w' ⟨fun y hy => by
      rcases List.mem_append.1 hy with hy | hy
      · exact hown.1 y hy
      · exact hc.1 y hy, by simpa using h2⟩ h3 h4

theorem ints_one {y : Int} (hy : (Lit.int k y).wf = true) : Ints k (w.alloc (.cells #[.int k y] E)) (.slice (some ⟨w.heap.size, 0, none⟩) 1 1) [y] := by
  refine ⟨fun z hz => by simp at hz; subst hz; exact hy, some ⟨w.heap.size, 0, none⟩, 1, rfl, by simp, by unfold maxLen; omega, (fun h => by cases h), fun i hi => ⟨w.heap.size, 0, rfl, ?_⟩⟩
  have : i = 0 := by simpa using hi
  subst this
  simp

/-- a literal of numbers, just made -/
theorem ints_lit {cs : Array Value} (zs : List Int) (hw : ∀ z ∈ zs, (Lit.int k z).wf = true) (hcs : cs = (zs.map (Value.int k)).toArray) (hl : zs.length ≤ 1000) {n : Nat} (hn : n = zs.length) : Ints k (w.alloc (.cells cs E)) (.slice (some ⟨w.heap.size, 0, none⟩) n n) zs := by
  subst hn
  subst hcs
  refine ⟨hw, some ⟨w.heap.size, 0, none⟩, zs.length, rfl, by omega, by unfold maxLen; omega, (fun h => by cases h), fun i hi => ⟨w.heap.size, 0, rfl, ?_⟩⟩
  rw [Nat.zero_add, World.cell?_alloc_new]
  simp [List.getD_eq_getElem?_getD, List.getElem?_eq_getElem hi]

/-- numbers: one appended to what is owned -/
theorem wpList_int {ops : Array Oper} {rest : List Oper} {o : Oper} {a : Act} {Q : Exit → Act → World → Prop} {y : Int} (hgd : o.guard = none) (s x : Operand)
    (ho : o.op = .call { callee := .builtin .append, args := #[s, x], argTypes := #[t, t] }) (he : Elem P t E (.int k 0) 1 bytes) (v : Value) (hs : a.eval s = v) (hx : a.eval x = .slice (some ⟨w.heap.size, 0, none⟩) 1 1) (hown : Own k E B w v zs) (hy : (Lit.int k y).wf = true)
    (hroom : (zs.length + 1) * bytes ≤ 140737488355328) (hB : B ≤ w.heap.size)
    (h : ∀ v' w', Own k E B w' v' (zs ++ [y]) → Fr (fun j => v.ownBlock = some j) w w' → (v'.ownBlock = v.ownBlock ∨ v'.ownBlock = some (w.heap.size + 1)) → wpList P ops Q rest (a.put o.dst v') w') : wpList P ops Q (o :: rest) a (w.alloc (.cells #[.int k y] E)) :=
  wpList_ints hgd s x ho he v hs hx (hown.keeps ((Fr.refl _ _).alloc _)) (ints_one hy) hroom (by simp; omega) fun v' w' h2 h3 h4 => h v' w' h2 (((Fr.refl _ _).alloc _).trans h3 fun _ _ h => h) (by simpa using h4)

theorem wp_ints {o : Oper} {a : Act} {K : Act → World → Prop} {Q : Exit → Act → World → Prop} (s x : Operand)
    (ho : o.op = .call { callee := .builtin .append, args := #[s, x], argTypes := #[t, t] }) (he : Elem P t E (.int k 0) 1 bytes) (v : Value) (hs : a.eval s = v) (hx : a.eval x = u) (hown : Own k E B w v zs) (hc : Ints k w u ys)
    (hroom : (zs.length + ys.length) * bytes ≤ 140737488355328) (hB : B ≤ w.heap.size)
    (h : ∀ v' w', Own k E B w' v' (zs ++ ys) → Fr (fun j => v.ownBlock = some j) w w' → (v'.ownBlock = v.ownBlock ∨ v'.ownBlock = some w.heap.size) → K (a.put o.dst v') w') : o.wp P a w K Q :=
  wp_app s x ho he v hs hx hown.2 hc.cells (oneCells k ys) hroom hB fun v' w' h2 h3 h4 => h v' w' ⟨fun y hy => by
      rcases List.mem_append.1 hy with hy | hy
      · exact hown.1 y hy
      · exact hc.1 y hy, by simpa using h2⟩ h3 h4
/-- the same at a step of a region that draws its order -/
theorem step_ints {ops : Array Oper} {o : Oper} {a : Act} {K : Act → World → Prop} {Q : Exit → Act → World → Prop} {E' : Prop} (hgd : o.guard = none) (s x : Operand)
    (ho : o.op = .call { callee := .builtin .append, args := #[s, x], argTypes := #[t, t] }) (he : Elem P t E (.int k 0) 1 bytes) (v : Value) (hs : a.eval s = v) (hx : a.eval x = u) (hown : Own k E B w v zs) (hc : Ints k w u ys)
    (hroom : (zs.length + ys.length) * bytes ≤ 140737488355328) (hB : B ≤ w.heap.size)
    (h : ∀ v' w', Own k E B w' v' (zs ++ ys) → Fr (fun j => v.ownBlock = some j) w w' → (v'.ownBlock = v.ownBlock ∨ v'.ownBlock = some w.heap.size) → K (a.put o.dst v') w') : if Region.wanted o (yielded ops a.tmps) = true then Oper.wp P o a w K Q else E' := by
  rw [if_pos (by simp [Region.wanted, hgd])]
  exact wp_ints s x ho he v hs hx hown hc hroom hB h
theorem step_int {ops : Array Oper} {o : Oper} {a : Act} {K : Act → World → Prop} {Q : Exit → Act → World → Prop} {E' : Prop} {y : Int} (hgd : o.guard = none) (s x : Operand)
    (ho : o.op = .call { callee := .builtin .append, args := #[s, x], argTypes := #[t, t] }) (he : Elem P t E (.int k 0) 1 bytes) (v : Value) (hs : a.eval s = v) (hx : a.eval x = .slice (some ⟨w.heap.size, 0, none⟩) 1 1) (hown : Own k E B w v zs) (hy : (Lit.int k y).wf = true)
    (hroom : (zs.length + 1) * bytes ≤ 140737488355328) (hB : B ≤ w.heap.size)
    (h : ∀ v' w', Own k E B w' v' (zs ++ [y]) → Fr (fun j => v.ownBlock = some j) w w' → (v'.ownBlock = v.ownBlock ∨ v'.ownBlock = some (w.heap.size + 1)) → K (a.put o.dst v') w') : if Region.wanted o (yielded ops a.tmps) = true then Oper.wp P o a (w.alloc (.cells #[.int k y] E)) K Q else E' :=
  step_ints hgd s x ho he v hs hx (hown.keeps ((Fr.refl _ _).alloc _)) (ints_one hy) hroom (by simp; omega) fun v' w' h2 h3 h4 => h v' w' h2 (((Fr.refl _ _).alloc _).trans h3 fun _ _ h => h) (by simpa using h4)
end

end Go.Proofs.Ytbbljpkboojjhaa
