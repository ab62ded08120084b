/- The map of numbers: what its blocks hold. -/
import Derived.Test.YtapagllebpcnhaaQuPP
namespace Go.Proofs.Ytapagllebpcnhaa
open Go.RowKit

/-- how many have a state -/
def cnt (st : List Int) (s : Int) : Nat := (st.filter (fun x => decide (x = s))).length
theorem cnt_le (st : List Int) (s : Int) : cnt st s ≤ st.length := List.length_filter_le _ _
theorem cnt_cons (x s : Int) (st : List Int) : cnt (x :: st) s = (if x = s then 1 else 0) + cnt st s := by
  unfold cnt
  rw [List.filter_cons]
  by_cases h : x = s
  · simp [h]; omega
  · simp [h]
theorem cnt_set (s y : Int) : ∀ (st : List Int) (i : Nat), i < st.length → cnt (st.set i y) s + (if st.getD i 0 = s then 1 else 0) = cnt st s + (if y = s then 1 else 0)
  | [], i, h => by simp at h
  | x :: st, 0, _ => by
    rw [List.set_cons_zero, cnt_cons, cnt_cons]
    simp only [List.getD_cons_zero]
    omega
  | x :: st, i + 1, h => by
    have ih := cnt_set s y st i (by simpa using h)
    rw [List.set_cons_succ, cnt_cons, cnt_cons]
    simp only [List.getD_cons_succ]
    omega
theorem cnt_pos {st : List Int} {s : Int} {i : Nat} (h : i < st.length) (hs : st.getD i 0 = s) : 0 < cnt st s := by
  unfold cnt
  have hm : s ∈ st.filter (fun x => decide (x = s)) := by
    rw [List.mem_filter]
    refine ⟨?_, by simp⟩
    rw [← hs, List.getD_eq_getElem?_getD, List.getElem?_eq_getElem h]
    exact List.getElem_mem _
  exact List.length_pos_of_mem hm
theorem cnt_none {st : List Int} {s : Int} (h : ∀ i, i < st.length → st.getD i 0 ≠ s) : cnt st s = 0 := by
  unfold cnt
  rw [List.length_eq_zero_iff, List.filter_eq_nil_iff]
  intro x hx
  obtain ⟨i, hi, rfl⟩ := List.getElem_of_mem hx
  have := h i hi
  rw [List.getD_eq_getElem?_getD, List.getElem?_eq_getElem hi] at this
  simpa using this
theorem set_get (st : List Int) (i : Nat) (y : Int) (k : Nat) (hi : i < st.length) : (st.set i y).getD k 0 = if k = i then y else st.getD k 0 := by
  simp only [List.getD_eq_getElem?_getD, List.getElem?_set]
  by_cases h : k = i
  · subst h; simp [hi]
  · have : ¬ i = k := fun e => h e.symm
    simp [h, this]

/-- The program's map at block b, its states at block s; R: blocks that are none of its own; rs are set aside; C bounds its queue. -/
structure Mp (R : Nat → Prop) (w : World) (b s L : Nat) (st : List Int) (rs C : Nat) (v : Value) (q : List Int) (E : TypeId) (D : Nat) : Prop where
  heap : w.heap[b]? = some (.cells #[.int .i64 L, .slice (some ⟨s, 0, none⟩) st.length st.length, v, .int .i64 (cnt st 0), .int .i64 D, .int .i64 rs] E (0, 0))
  own : Own .u8 5 0 w (.slice (some ⟨s, 0, none⟩) st.length st.length) st
  qown : Own .i64 3 0 w v q
  sb : s ≠ b
  vb : v.ownBlock ≠ some b
  vs : v.ownBlock ≠ some s
  hq : HeapN q q.length
  sub : ∀ y, MemN q q.length y → (L : Int) ≤ y ∧ y < L + st.length
  free : ∀ i, i < st.length → st.getD i 0 = 0 → MemN q q.length ((L + i : Nat) : Int)
  val : ∀ i, i < st.length → 0 ≤ st.getD i 0 ∧ st.getD i 0 ≤ 2
  rsb : rs ≤ cnt st 0
  end_ : L + st.length ≤ 65536
  qb : q.length + cnt st 2 ≤ C
  hR : ∀ k, R k → k < w.heap.size
  rb : ¬ R b
  rS : ¬ R s
  rv : ∀ k, v.ownBlock = some k → ¬ R k
/-- the same, the queue left open -/
def MpX (R : Nat → Prop) (w : World) (b s L : Nat) (st : List Int) (rs C : Nat) : Prop := ∃ v q E, Mp R w b s L st rs C v q E (cnt st 2)

theorem Mp.fr {R S : Nat → Prop} {w w' : World} {b s L : Nat} {st : List Int} {rs C : Nat} {v : Value} {q : List Int} {E : TypeId} {D : Nat} (h : Mp R w b s L st rs C v q E D) (f : Fr S w w') (hb : ¬ S b) (hs : ¬ S s) (hv : ∀ k, v.ownBlock = some k → ¬ S k) : Mp R w' b s L st rs C v q E D :=
  ⟨f.heap hb h.heap, h.own.fr f (fun k hk => by cases hk; exact hs), h.qown.fr f hv, h.sb, h.vb, h.vs, h.hq, h.sub, h.free, h.val, h.rsb, h.end_, h.qb, fun k hk => Nat.lt_of_lt_of_le (h.hR k hk) f.size, h.rb, h.rS, h.rv⟩
theorem MpX.fr {R S : Nat → Prop} {w w' : World} {b s L : Nat} {st : List Int} {rs C : Nat} (h : MpX R w b s L st rs C) (f : Fr S w w') (hS : ∀ k, S k → R k) : MpX R w' b s L st rs C := by
  obtain ⟨v, q, E, h⟩ := h
  exact ⟨v, q, E, h.fr f (fun hk => h.rb (hS _ hk)) (fun hk => h.rS (hS _ hk)) (fun k hk hs => h.rv k hk (hS _ hs))⟩
theorem MpX.keeps {R : Nat → Prop} {w w' : World} {b s L : Nat} {st : List Int} {rs C : Nat} (h : MpX R w b s L st rs C) (f : Keeps w w') : MpX R w' b s L st rs C := h.fr f (fun _ h => h.elim)
theorem MpX.mono {R : Nat → Prop} {w : World} {b s L : Nat} {st : List Int} {rs C C' : Nat} (h : MpX R w b s L st rs C) (hC : C ≤ C') : MpX R w b s L st rs C' := by
  obtain ⟨v, q, E, h⟩ := h
  exact ⟨v, q, E, ⟨h.heap, h.own, h.qown, h.sb, h.vb, h.vs, h.hq, h.sub, h.free, h.val, h.rsb, h.end_, Nat.le_trans h.qb hC, h.hR, h.rb, h.rS, h.rv⟩⟩

/-- has the number this state? -/
def isB (L : Nat) (st : List Int) (n s : Int) : Bool := decide ((L : Int) ≤ n ∧ n - L < st.length ∧ st.getD (n - L).toNat 0 = s)

set_option maxRecDepth 100000 in
set_option maxHeartbeats 1000000 in
theorem mapIs0 {w : World} {b s L : Nat} {st : List Int} {n x : Int} (d0 : w.cell? ⟨b, 0, none⟩ = some (.int .i64 L)) (d1 : w.cell? ⟨b, 1, none⟩ = some (.slice (some ⟨s, 0, none⟩) st.length st.length)) (hown : Own .u8 5 0 w (.slice (some ⟨s, 0, none⟩) st.length st.length) st) (hl : L + st.length ≤ 65536) (hn : -9223372036854775808 ≤ n ∧ n ≤ 9223372036854775807) :
    Calls Try.prog 35 #[.pointer (some ⟨b, 0, none⟩), .int .i64 n, .int .u8 x] w fun e w' => e = .returned (.bool (isB L st n x)) ∧ ∃ m, w' = w.drewN m := by
  obtain ⟨N, hN⟩ : ∃ N, N = st.length := ⟨_, rfl⟩
  rw [← hN] at hl d1 hown
  have HN := Lib.hid hN
  have HO := Lib.hid hown
  clear hN hown
  obtain ⟨r, hr⟩ : ∃ r, r = isB L st n x := ⟨_, rfl⟩
  rw [← hr]
  have HR := Lib.hid hr
  clear hr
  have hor : n < L ∨ (L ≤ n ∧ N ≤ n - L) ∨ (L ≤ n ∧ n - L < N) := by omega
  rcases hor with h1 | ⟨h1, h2⟩ | ⟨h1, h2⟩
  · have e : Hid (r = false) := by show _ = _; rw [HR.out, isB, decide_eq_false]; omega
    have t1 : decide ((L : Int) ≤ n) = false := by simp; omega
    go_enter Try.func35, Try.ntmps35
    go_wp2_with fail
    go_quiet (fail)
    go_wp2_with fail
    go_ret
    exact ⟨by rw [e.out]; rfl, _, rfl⟩
  · have e : Hid (r = false) := by show _ = _; rw [HR.out, isB, decide_eq_false]; rw [← HN.out]; omega
    have t2 : decide (n - (L : Int) < (N : Int)) = false := by simp; omega
    go_enter Try.func35, Try.ntmps35
    go_wp2_with fail
    go_quiet (fail)
    go_wp2_with fail
    go_ret
    exact ⟨by rw [e.out]; rfl, _, rfl⟩
  · obtain ⟨k, rfl⟩ : ∃ k : Nat, n = (L : Int) + (k : Int) := ⟨(n - L).toNat, by omega⟩
    have hk : k < N := by omega
    obtain ⟨hcell, _⟩ := HO.out.at (i := k) (by rw [← HN.out]; exact hk)
    have e : Hid (r = decide (st.getD k 0 = x)) := by
      show _ = _
      rw [HR.out, isB, show (L : Int) + (k : Int) - (L : Int) = (k : Int) by omega, Int.toNat_natCast, ← HN.out]
      exact decide_eq_decide.2 ⟨fun h => h.2.2, fun h => ⟨by omega, by omega, h⟩⟩
    obtain ⟨y, hy⟩ : ∃ y, y = st.getD k 0 := ⟨_, rfl⟩
    rw [← hy] at hcell e
    have t1 : (L : Int) ≤ (L : Int) + (k : Int) := by omega
    have t2 : (L : Int) + (k : Int) - (L : Int) < (N : Int) := by omega
    have t3 : (0 : Int) ≤ (L : Int) + (k : Int) - (L : Int) := by omega
    clear hy h1 h2
    go_enter Try.func35, Try.ntmps35
    go_wp2_with fail
    go_quiet (fail)
    go_wp2_with fail
    go_ret
    exact ⟨by rw [e.out]; rfl, _, rfl⟩
theorem mapIs {R : Nat → Prop} {w : World} {b s L : Nat} {st : List Int} {rs C : Nat} {n x : Int} (h : MpX R w b s L st rs C) (hn : -9223372036854775808 ≤ n ∧ n ≤ 9223372036854775807) :
    Calls Try.prog 35 #[.pointer (some ⟨b, 0, none⟩), .int .i64 n, .int .u8 x] w fun e w' => e = .returned (.bool (isB L st n x)) ∧ ∃ m, w' = w.drewN m := by
  obtain ⟨v, q, E, h⟩ := h
  have d0 := cell_of_row w b 0 _ E (0, 0) h.heap
  have d1 := cell_of_row w b 1 _ E (0, 0) h.heap
  simp at d0 d1
  exact mapIs0 d0 d1 h.own h.end_ hn
end Go.Proofs.Ytapagllebpcnhaa
