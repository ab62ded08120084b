/- The methods of the queue of things. -/
import Derived.Test.YtbbljpkboojjhaaThRow
import Derived.Deep.RegionWith
namespace Go.Proofs.Ytbbljpkboojjhaa
open Go.RowKit

theorem elemT : Elem Try.prog 61 63 (.agg #[.int .i64 0, .int .i64 0, .slice none 0 0]) 3 40 := Elem.mk' Try.underlying61 (by kernel_rfl) rfl (by decide) (by decide)
/-- numbers that may be -/
def NumT (q : List Int) : Prop := ∀ i, i < q.length → 0 ≤ q.getD i 0 ∧ q.getD i 0 < 1024

theorem tLen {w : World} {a : Option Addr} {n c : Nat} (_ : n ≤ 1000000000) : Calls Try.prog 62 #[.slice a n c] w fun e w' => e = .returned (.int .i64 n) ∧ w' = w := by
  go_enter Try.func62, Try.ntmps62
  go_wp2_with fail
  go_ret
  exact ⟨rfl, rfl⟩

set_option maxHeartbeats 2000000 in
theorem tLess {D : Int → Th} {w : World} {B : Nat} {v : Value} {q : List Int} {i j : Nat} (h : OwnT D B w v q) (hn : NumT q) (hi : i < q.length) (hj : j < q.length) (_hl : q.length ≤ 1000000000) :
    Calls Try.prog 63 #[v, .int .i64 i, .int .i64 j] w fun e w' => e = .returned (.bool (decide (keyT D (q.getD i 0) < keyT D (q.getD j 0)))) ∧ ∃ m, w' = w.drewN m := by
  obtain ⟨g, c, hv, _, ci0, ci1, _, _, hc1⟩ := h.at hi
  obtain ⟨g', c', hv', _, cj0, cj1, _, _, _⟩ := h.at hj
  rw [hv] at hv'
  cases hv'
  subst hv
  obtain ⟨n, hn'⟩ : ∃ n, n = q.length := ⟨_, rfl⟩
  have hki := hn i hi
  have hkj := hn j hj
  rw [← hn'] at hi hj _hl hc1 ⊢
  have HK := Lib.hid (key_lt (D := D) hki hkj)
  obtain ⟨x, hx⟩ : ∃ x, x = q.getD i 0 := ⟨_, rfl⟩
  obtain ⟨y, hy⟩ : ∃ y, y = q.getD j 0 := ⟨_, rfl⟩
  rw [← hx] at ci0 ci1 HK ⊢
  rw [← hy] at cj0 cj1 HK ⊢
  obtain ⟨a, ha⟩ : ∃ a, a = (D x).wt := ⟨_, rfl⟩
  obtain ⟨b, hb⟩ : ∃ b, b = (D y).wt := ⟨_, rfl⟩
  rw [← ha] at ci0 HK
  rw [← hb] at cj0 HK
  obtain ⟨r, hr⟩ : ∃ r, r = decide (keyT D x < keyT D y) := ⟨_, rfl⟩
  rw [← hr]
  have HR := Lib.hid hr
  have t1 : (i : Int) < (n : Int) := by omega
  have t2 : (j : Int) < (n : Int) := by omega
  have t3 : (0 : Int) ≤ (i : Int) := by omega
  have t4 : (0 : Int) ≤ (j : Int) := by omega
  clear h hn hn' hx hy ha hb hr hki hkj
  by_cases hab : a < b
  · have d1 : decide (a < b) = true := decide_eq_true hab
    have e : Hid (r = true) := by show _ = _; rw [HR.out]; exact decide_eq_true (HK.out.2 (.inl hab))
    go_enter Try.func63, Try.ntmps63
    go_wp2_with fail
    go_quiet (fail)
    go_wp2_with fail
    go_ret
    exact ⟨by rw [e.out]; rfl, _, rfl⟩
  · have d1 : decide (a < b) = false := decide_eq_false hab
    by_cases hba : a = b
    · subst hba
      by_cases hxy : x < y
      · have d2 : decide (x < y) = true := decide_eq_true hxy
        have e : Hid (r = true) := by show _ = _; rw [HR.out]; exact decide_eq_true (HK.out.2 (.inr ⟨rfl, hxy⟩))
        go_enter Try.func63, Try.ntmps63
        go_wp2_with fail
        go_quiet (fail)
        go_wp2_with fail
        go_ret
        exact ⟨by rw [e.out]; rfl, _, rfl⟩
      · have d2 : decide (x < y) = false := decide_eq_false hxy
        have e : Hid (r = false) := by
          show _ = _
          rw [HR.out]
          exact decide_eq_false (fun h => by rcases HK.out.1 h with h | h; exact hab h; exact hxy h.2)
        go_enter Try.func63, Try.ntmps63
        go_wp2_with fail
        go_quiet (fail)
        go_wp2_with fail
        go_ret
        exact ⟨by rw [e.out]; rfl, _, rfl⟩
    · have d2 : (a == b) = false := by simpa using hba
      have e : Hid (r = false) := by
        show _ = _
        rw [HR.out]
        exact decide_eq_false (fun h => by rcases HK.out.1 h with h | h; exact hab h; exact hba h.1)
      go_enter Try.func63, Try.ntmps63
      go_wp2_with fail
      go_quiet (fail)
      go_wp2_with fail
      go_ret
      exact ⟨by rw [e.out]; rfl, _, rfl⟩

set_option maxHeartbeats 1000000 in
theorem tSwap {D : Int → Th} {w : World} {B : Nat} {v : Value} {q : List Int} {i j : Nat} (h : OwnT D B w v q) (hi : i < q.length) (hj : j < q.length) (hij : i ≠ j) (_hl : q.length ≤ 1000000000) :
    Calls Try.prog 64 #[v, .int .i64 i, .int .i64 j] w fun e w' => e = .returned (.tuple #[]) ∧ OwnT D B w' v (swapL q i j) ∧ Fr (fun k => v.ownBlock = some k) w w' := by
  obtain ⟨g, c, hv, _, c0, c1, c2, f, hc1⟩ := h.at hi
  obtain ⟨g', c', hv', _, d0, d1, d2, _, _⟩ := h.at hj
  rw [hv] at hv'
  cases hv'
  subst hv
  have H := Lib.hid h
  obtain ⟨n, hn'⟩ : ∃ n, n = q.length := ⟨_, rfl⟩
  rw [← hn'] at hi hj _hl hc1 H ⊢
  obtain ⟨x, hx⟩ : ∃ x, x = q.getD i 0 := ⟨_, rfl⟩
  obtain ⟨y, hy⟩ : ∃ y, y = q.getD j 0 := ⟨_, rfl⟩
  rw [← hx] at c0 c1 c2
  rw [← hy] at d0 d1 d2
  have HS := Lib.hid (H.out.swap hi hj hij hx hy)
  have t1 : (i : Int) < (n : Int) := by omega
  have t2 : (j : Int) < (n : Int) := by omega
  have t3 : (0 : Int) ≤ (i : Int) := by omega
  have t4 : (0 : Int) ≤ (j : Int) := by omega
  have f0 := f (i * 3)
  have f1 := f (i * 3 + 1)
  have f2 := f (i * 3 + 2)
  have h0 := f (j * 3)
  have h1 := f (j * 3 + 1)
  have h2 := f (j * 3 + 2)
  have e1 : ¬ i * 3 = j * 3 := by omega
  have e2 : ¬ j * 3 = i * 3 := by omega
  clear f h hn' hx hy H
  go_enter Try.func64, Try.ntmps64
  go_wp2_with fail
  go_region
  all_goals
    go_wp2_with fail
    go_end0
    go_light
    refine ⟨rfl, HS.out.keeps ((Fr.refl _ _).drew), ?_⟩
    exact (((((((Fr.refl (fun k => (Value.slice (some ⟨g, 0, none⟩) n c).ownBlock = some k) w).setAt rfl _ _).setAt rfl _ _).setAt rfl _ _).setAt rfl _ _).setAt rfl _ _).setAt rfl _ _).drew

/-- what a step leaves of the queue whose header lies at place off of block b -/
structure ThAt (D : Int → Th) (w w' : World) (b off : Nat) (v v' : Value) (q' : List Int) : Prop where
  own : OwnT D 0 w' v' q'
  head : ∀ cs E, w.heap[b]? = some (.cells cs E (0, 0)) → w'.heap[b]? = some (.cells (cs.setIfInBounds off v') E (0, 0))
  fr : Fr (fun k => k = b ∨ v.ownBlock = some k) w w'
  at_ : v'.ownBlock = v.ownBlock ∨ ∀ k, v'.ownBlock = some k → w.heap.size ≤ k

set_option maxHeartbeats 1000000 in
theorem tPop {D : Int → Th} {w : World} {b off m : Nat} {a : Option Addr} {c : Nat} {q : List Int} {cs : Array Value} {E : TypeId} (h : OwnT D 0 w (.slice a (m + 1) c) q) (hn : m ≤ 1000000000) (hh : w.heap[b]? = some (.cells cs E (0, 0))) (hc : cs[off]? = some (.slice a (m + 1) c)) (hb : (Value.slice a (m + 1) c).ownBlock ≠ some b) :
    Calls Try.prog 65 #[.pointer (some ⟨b, off, none⟩)] w fun e w' => e = .returned (.iface 63 (.agg (cellsT D (q.getD m 0)).toArray)) ∧ ThAt D w w' b off (.slice a (m + 1) c) (.slice a m c) (q.take m) := by
  have hl : q.length = m + 1 := h.len
  obtain ⟨g, c', hv, _, c0, c1, c2, f, hc1⟩ := h.at (i := m) (by omega)
  rw [hl] at hv
  cases hv
  have H := Lib.hid h
  have HH := Lib.hid hh
  have HB := Lib.hid hb
  have cp := cell_of_row w b off cs E (0, 0) hh
  rw [hc] at cp
  have fp := frozen_no hh off
  have hbl : b < w.heap.size := World.block_lt_of_cell? _ _ cp
  have hgl : g < w.heap.size := World.block_lt_of_cell? _ _ c0
  have hbg : ¬ b = g := fun e => hb (by rw [e]; rfl)
  have hgb : ¬ g = b := fun e => hbg e.symm
  have hbw : ¬ b = w.heap.size := by omega
  have hgw : ¬ g = w.heap.size := by omega
  obtain ⟨x, hx⟩ : ∃ x, x = q.getD m 0 := ⟨_, rfl⟩
  rw [← hx] at c0 c1 c2 ⊢
  have t1 : (m : Int) < ((m + 1 : Nat) : Int) := by omega
  have hmc : m < c := by omega
  clear h hc1 hc hb hl hh hx f
  go_enter Try.func65, Try.ntmps65
  go_wp2_with fail
  go_ret
  go_light
  refine ⟨rfl, (H.out.take (by omega)).fr (S := fun k => k = b) (((Fr.refl (fun k => k = b) w).setAt rfl off _).alloc _) (fun k hk h => by cases hk; exact hgb h), fun cs' E' h' => ?_, ((Fr.refl (fun k => k = b ∨ (Value.slice (some ⟨g, 0, none⟩) (m + 1) c).ownBlock = some k) w).setAt (.inl rfl) off _).alloc _, .inl rfl⟩
  exact ((Fr.refl (fun _ => False) _).alloc _).heap (fun h => h) (heap_set h' off _)
end Go.Proofs.Ytbbljpkboojjhaa
