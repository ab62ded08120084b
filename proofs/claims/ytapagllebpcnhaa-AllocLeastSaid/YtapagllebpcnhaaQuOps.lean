/- The methods of the queue of numbers. -/
import Derived.Test.YtapagllebpcnhaaQuHeap
import Derived.Test.YtapagllebpcnhaaHeapS
import Derived.Deep.RegionLaw
namespace Go.Proofs.Ytapagllebpcnhaa
open Go.RowKit

theorem elemN : Elem Try.prog 51 3 (.int .i64 0) 1 8 := Elem.mk' Try.underlying51 (by kernel_rfl) rfl (by decide) (by decide)

theorem Own.take {k : IntKind} {E : TypeId} {B : Nat} {w : World} {a : Option Addr} {n c j : Nat} {zs : List Int} (h : Own k E B w (.slice a n c) zs) (hj : j ≤ n) : Own k E B w (.slice a j c) (zs.take j) := by
  have hl : zs.length = n := h.ints.len.1
  obtain ⟨h1, h2, h3⟩ := h
  have hlt : (zs.take j).length = j := by rw [List.length_take]; omega
  refine ⟨fun z hz => h1 z (List.mem_of_mem_take hz), by simp, ?_⟩
  rcases h3 with ⟨hv, h0⟩ | ⟨g, cap, cur, hv, hb, hg, hn, hm, hs, ht⟩
  · cases hv
    exact .inl ⟨by rw [show j = 0 by omega], by rw [hlt]; omega⟩
  · cases hv
    refine .inr ⟨g, c, cur, by rw [hlt], hb, hg, by rw [hlt]; omega, hm, hs, ?_⟩
    rw [hlt, Nat.mul_one, List.map_take, ← ht, Nat.mul_one, List.take_take, hl, Nat.min_eq_left hj]

theorem qLen {w : World} {a : Option Addr} {n c : Nat} (_hn : n ≤ 17592186044300) : Calls Try.prog 59 #[.slice a n c] w fun e w' => e = .returned (.int .i64 n) ∧ w' = w := by
  go_enter Try.func59, Try.ntmps59
  go_wp2_with fail
  go_ret
  exact ⟨rfl, rfl⟩

set_option maxHeartbeats 1000000 in
theorem qLess {w : World} {B : Nat} {v : Value} {q : List Int} {i j : Nat} (h : Own .i64 3 B w v q) (hi : i < q.length) (hj : j < q.length) (hn : q.length ≤ 17592186044300) :
    Calls Try.prog 60 #[v, .int .i64 i, .int .i64 j] w fun e w' => e = .returned (.bool (decide (q.getD i 0 < q.getD j 0))) ∧ ∃ m, w' = w.drewN m := by
  obtain ⟨g, c, hv, hc1, hc2, hg, hg2⟩ := h.formNe (by omega)
  obtain ⟨n, hn'⟩ : ∃ n, n = q.length := ⟨_, rfl⟩
  rw [← hn'] at hv hi hj hn
  subst hv
  obtain ⟨ci, _⟩ := h.at (i := i) (by omega)
  obtain ⟨cj, _⟩ := h.at (i := j) (by omega)
  generalize q.getD i 0 = x at *
  generalize q.getD j 0 = y at *
  have t1 : (i : Int) < (n : Int) := by omega
  have t2 : (j : Int) < (n : Int) := by omega
  have t3 : (0 : Int) ≤ (i : Int) := by omega
  have t4 : (0 : Int) ≤ (j : Int) := by omega
  clear h hn' hg hg2 hc1
  go_enter Try.func60, Try.ntmps60
  go_wp2_with fail
  go_quiet (fail)
  go_wp2_with fail
  go_ret
  exact ⟨rfl, _, rfl⟩

set_option maxHeartbeats 1000000 in
theorem qSwap {w : World} {B : Nat} {v : Value} {q : List Int} {i j : Nat} (h : Own .i64 3 B w v q) (hi : i < q.length) (hj : j < q.length) (hn : q.length ≤ 17592186044300) :
    Calls Try.prog 61 #[v, .int .i64 i, .int .i64 j] w fun e w' => e = .returned (.tuple #[]) ∧ Own .i64 3 B w' v (swapL q i j) ∧ Fr (fun k => v.ownBlock = some k) w w' := by
  obtain ⟨g, c, hv, hc1, hc2, hg, hg2⟩ := h.formNe (by omega)
  obtain ⟨n, hn'⟩ : ∃ n, n = q.length := ⟨_, rfl⟩
  rw [← hn'] at hv hi hj hn
  subst hv
  have H := Lib.hid h
  obtain ⟨ci, fi⟩ := h.at (i := i) (by omega)
  obtain ⟨cj, fj⟩ := h.at (i := j) (by omega)
  have wi := ints_int h.1 (show i < q.length by omega)
  have wj := ints_int h.1 (show j < q.length by omega)
  obtain ⟨x, hx⟩ : ∃ x, x = q.getD i 0 := ⟨_, rfl⟩
  obtain ⟨y, hy⟩ : ∃ y, y = q.getD j 0 := ⟨_, rfl⟩
  rw [← hx] at ci wi
  rw [← hy] at cj wj
  have HX := Lib.hid hx
  have HY := Lib.hid hy
  have t1 : (i : Int) < (n : Int) := by omega
  have t2 : (j : Int) < (n : Int) := by omega
  have t3 : (0 : Int) ≤ (i : Int) := by omega
  have t4 : (0 : Int) ≤ (j : Int) := by omega
  have HW : Hid ((Lit.int .i64 x).wf = true ∧ (Lit.int .i64 y).wf = true) := by
    refine ⟨?_, ?_⟩
    · rw [HX.out, List.getD_eq_getElem?_getD, List.getElem?_eq_getElem (show i < q.length by omega)]; exact h.1 _ (List.getElem_mem _)
    · rw [HY.out, List.getD_eq_getElem?_getD, List.getElem?_eq_getElem (show j < q.length by omega)]; exact h.1 _ (List.getElem_mem _)
  clear h hn' hg hg2 hc1 hx hy
  by_cases hij : i = j
  · subst hij
    go_enter Try.func61, Try.ntmps61
    go_wp2_with fail
    go_region
    all_goals
      go_wp2_with fail
      go_end0
      go_light
      have o2 := ((H.out.set i HW.out.1).set i HW.out.1).keeps ((Fr.refl _ _).drew)
      rw [HX.out] at o2 ⊢
      exact ⟨rfl, o2, (((Fr.refl (fun k => (Value.slice (some ⟨g, 0, none⟩) n c).ownBlock = some k) _).setAt rfl _ _).setAt rfl _ _).drew⟩
  · have hji : ¬ j = i := fun e => hij e.symm
    go_enter Try.func61, Try.ntmps61
    go_wp2_with fail
    go_region
    all_goals
      go_wp2_with fail
      go_end0
      go_light
      have o2 := ((H.out.set i HW.out.2).set j HW.out.1).keeps ((Fr.refl _ _).drew)
      rw [HX.out, HY.out] at o2 ⊢
      exact ⟨rfl, o2, (((Fr.refl (fun k => (Value.slice (some ⟨g, 0, none⟩) n c).ownBlock = some k) _).setAt rfl _ _).setAt rfl _ _).drew⟩

/-- what a step leaves of the queue whose header lies at place off of block b -/
structure QuAt (w w' : World) (b off : Nat) (v v' : Value) (q' : List Int) : Prop where
  own : Own .i64 3 0 w' v' q'
  head : ∀ cs E, w.heap[b]? = some (.cells cs E (0, 0)) → w'.heap[b]? = some (.cells (cs.setIfInBounds off v') E (0, 0))
  fr : Fr (fun k => k = b ∨ v.ownBlock = some k) w w'
  at_ : v'.ownBlock = v.ownBlock ∨ ∀ k, v'.ownBlock = some k → w.heap.size ≤ k

set_option maxHeartbeats 1000000 in
theorem qPop {w : World} {b off m : Nat} {a : Option Addr} {c : Nat} {q : List Int} {cs : Array Value} {E : TypeId} (h : Own .i64 3 0 w (.slice a (m + 1) c) q) (hn : m ≤ 17592186044300) (hh : w.heap[b]? = some (.cells cs E (0, 0))) (hc : cs[off]? = some (.slice a (m + 1) c)) (hb : (Value.slice a (m + 1) c).ownBlock ≠ some b) :
    Calls Try.prog 62 #[.pointer (some ⟨b, off, none⟩)] w fun e w' => e = .returned (.iface 3 (.int .i64 (q.getD m 0))) ∧ QuAt w w' b off (.slice a (m + 1) c) (.slice a m c) (q.take m) := by
  have hl : q.length = m + 1 := h.ints.len.1
  obtain ⟨g, c', hv, hc1, hc2, hg, hg2⟩ := h.formNe (by omega)
  rw [hl] at hv
  cases hv
  have H := Lib.hid h
  have HH := Lib.hid hh
  have HB := Lib.hid hb
  obtain ⟨cm, _⟩ := h.at (i := m) (by omega)
  have cp := cell_of_row w b off cs E (0, 0) hh
  rw [hc] at cp
  have fp := frozen_no hh off
  have hbg : ¬ b = g := fun e => hb (by rw [e]; rfl)
  have hgb : ¬ g = b := fun e => hbg e.symm
  generalize q.getD m 0 = x at *
  have t1 : (m : Int) < ((m + 1 : Nat) : Int) := by omega
  have hmc : m < c := by omega
  clear h hg hg2 hc1 hc hb hl hh
  go_enter Try.func62, Try.ntmps62
  go_wp2_with fail
  go_ret
  go_light
  exact ⟨rfl, (H.out.take (by omega)).fr (((Fr.refl (fun k => k = b) w).setAt rfl off _)) (fun k hk h => by cases hk; exact hgb h), fun cs' E' h' => heap_set h' off _, (Fr.refl _ w).setAt (.inl rfl) off _, .inl rfl⟩

theorem push_close {w w5 : World} {b off : Nat} {v v5 : Value} {q' : List Int} (H5 : Own .i64 3 0 w5 v5 q') (F5 : Fr (fun j => v.ownBlock = some j) w.drew w5) (A5 : v5.ownBlock = v.ownBlock ∨ v5.ownBlock = some (w.drew.heap.size + 1)) (HB : v.ownBlock ≠ some b) (hbl : b < w.heap.size) :
    QuAt w (w5.setCell ⟨b, off, none⟩ v5) b off v v5 q' := by
  have hb5 : v5.ownBlock ≠ some b := fun h => by
    rcases A5 with h5 | h5
    · exact HB (h5.symm.trans h)
    · rw [h5] at h
      have : w.drew.heap.size = w.heap.size := rfl
      injection h
      omega
  refine ⟨H5.fr ((Fr.refl (fun k => k = b) w5).setAt rfl off _) (fun k hk h => hb5 (by rw [hk]; exact congrArg some h)), fun cs E h => heap_set (F5.heap (fun h => HB h) h) off _, ?_, ?_⟩
  · exact ((((Fr.refl (fun k => k = b ∨ v.ownBlock = some k) w).drew).trans F5 (fun i _ h => .inr h)).setAt (.inl rfl) off _)
  · rcases A5 with h5 | h5
    · exact .inl h5
    · refine .inr fun k hk => ?_
      rw [h5] at hk
      have : w.drew.heap.size = w.heap.size := rfl
      injection hk
      omega

set_option maxHeartbeats 1000000 in
theorem qPush {w : World} {b off : Nat} {v : Value} {q : List Int} {x : Int} {cs : Array Value} {E : TypeId} (h : Own .i64 3 0 w v q) (hn : q.length ≤ 17592186044300) (hx : (Lit.int .i64 x).wf = true) (hh : w.heap[b]? = some (.cells cs E (0, 0))) (hc : cs[off]? = some v) (hb : v.ownBlock ≠ some b) :
    Calls Try.prog 63 #[.pointer (some ⟨b, off, none⟩), .iface 3 (.int .i64 x)] w fun e w' => e = .returned (.tuple #[]) ∧ ∃ v', QuAt w w' b off v v' (q ++ [x]) := by
  obtain ⟨a, c, hv⟩ := h.form
  obtain ⟨n, hn'⟩ : ∃ n, n = q.length := ⟨_, rfl⟩
  rw [← hn'] at hv hn
  subst hv
  have H := Lib.hid h
  have HH := Lib.hid hh
  have HB := Lib.hid hb
  have HN := Lib.hid hn'
  have HX := Lib.hid hx
  have cp := cell_of_row w b off cs E (0, 0) hh
  rw [hc] at cp
  have fp := frozen_no hh off
  have hbl := World.block_lt_of_cell? _ _ cp
  clear h hh hc hb hn' hx
  have hta := taInt
  go_enter Try.func63, Try.ntmps63
  go_wp2_with fail
  go_region_law ((refine step_int (w := w.drew) rfl _ _ (by rfl) elemN (.slice a n c) (by rfl) (by rfl) (H.out.keeps (Fr.refl _ _).drew) HX.out (by rw [← HN.out]; omega) (Nat.zero_le _) ?_; intro v5 w5 hown5 hfr5 hat5; have cp5 := hfr5.cell (p := ⟨b, off, none⟩) (fun h => HB.out h) cp; have fp5 := (hfr5.frozen (p := ⟨b, off, none⟩) (fun h => HB.out h) hbl).trans fp; obtain ⟨a5, c5, hv5⟩ := hown5.form; subst hv5; have H5 := Lib.hid hown5; have F5 := Lib.hid hfr5; have A5 := Lib.hid hat5; clear hown5 hfr5 hat5))
  all_goals
    go_wp2_with fail
    go_end0
    go_light
    have hl5 : (q ++ [x]).length = q.length + 1 := by simp
    have hc := push_close H5.out F5.out A5.out HB.out hbl (off := off)
    rw [hl5] at hc
    exact ⟨rfl, _, hc⟩
end Go.Proofs.Ytapagllebpcnhaa
