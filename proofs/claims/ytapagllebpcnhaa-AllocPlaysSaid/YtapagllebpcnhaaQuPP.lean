/- The heap's Pop and Push, over the queue of numbers. -/
import Derived.Test.YtapagllebpcnhaaQuUp
namespace Go.Proofs.Ytapagllebpcnhaa
open Go.RowKit

theorem naPop (a : Addr) (w : World) : (nilAhead 185 58 (.pointer (some a)) "Pop").run Try.prog w = .ok (some false) w := by kernel_rfl
theorem naPush (a : Addr) (w : World) : (nilAhead 185 58 (.pointer (some a)) "Push").run Try.prog w = .ok (some false) w := by kernel_rfl

theorem QuAt.after {w w1 w' : World} {b off : Nat} {v v' : Value} {q' : List Int} (f : Fr (fun k => v.ownBlock = some k) w w1) (h : QuAt w1 w' b off v v' q') (hb : v.ownBlock ≠ some b) : QuAt w w' b off v v' q' :=
  ⟨h.own, fun cs E hh => h.head cs E (f.heap hb hh), (f.mono fun i _ h => .inr h).trans h.fr (fun i _ h => h), by
    rcases h.at_ with h1 | h1
    · exact .inl h1
    · exact .inr fun k hk => Nat.le_trans f.size (h1 k hk)⟩
theorem QuAt.then {w w1 w' : World} {b off : Nat} {v v' : Value} {q q' : List Int} (h : QuAt w w1 b off v v' q) (f : Fr (fun k => v'.ownBlock = some k) w1 w') (ho : Own .i64 3 0 w' v' q') (hb : v.ownBlock ≠ some b) (hbl : b < w.heap.size) : QuAt w w' b off v v' q' := by
  have hb' : v'.ownBlock ≠ some b := fun e => by
    rcases h.at_ with h1 | h1
    · exact hb (h1.symm.trans e)
    · have := h1 b e; omega
  refine ⟨ho, fun cs E hh => f.heap (fun e => hb' e) (h.head cs E hh), h.fr.trans f (fun i hi e => ?_), h.at_⟩
  rcases h.at_ with h1 | h1
  · exact .inr (h1.symm.trans e)
  · have := h1 i e; omega

theorem take_get (q : List Int) {m k : Nat} (h : k < m) : (q.take m).getD k 0 = q.getD k 0 := by
  simp [List.getD_eq_getElem?_getD, h]
theorem memN_take (q : List Int) (m : Nat) (y : Int) : MemN (q.take m) m y ↔ MemN q m y :=
  ⟨fun ⟨k, hk, he⟩ => ⟨k, hk, by rw [← he, take_get q hk]⟩, fun ⟨k, hk, he⟩ => ⟨k, hk, by rw [take_get q hk, he]⟩⟩

set_option maxRecDepth 100000 in
set_option maxHeartbeats 1000000 in
theorem heapPop {w : World} {b off m : Nat} {a : Option Addr} {c : Nat} {q : List Int} {cs : Array Value} {E : TypeId} (h : Own .i64 3 0 w (.slice a (m + 1) c) q) (hn : m < 17592186044200) (hh : w.heap[b]? = some (.cells cs E (0, 0))) (hc : cs[off]? = some (.slice a (m + 1) c)) (hb : (Value.slice a (m + 1) c).ownBlock ≠ some b) (hq : HeapN q (m + 1)) :
    Calls Try.prog 36 #[.iface 58 (.pointer (some ⟨b, off, none⟩))] w fun e w' => e = .returned (.iface 3 (.int .i64 (q.getD 0 0))) ∧
      ∃ q', QuAt w w' b off (.slice a (m + 1) c) (.slice a m c) q' ∧ HeapN q' m ∧ q'.length = m ∧ (∀ y, MemN q (m + 1) y → y = q.getD 0 0 ∨ MemN q' m y) ∧ (∀ y, MemN q' m y → MemN q (m + 1) y) := by
  have hl : q.length = m + 1 := h.ints.len.1
  have cp := cell_of_row w b off cs E (0, 0) hh
  rw [hc] at cp
  have H := Lib.hid h
  have HH := Lib.hid hh
  have HB := Lib.hid hb
  have HC := Lib.hid hc
  have HQ := Lib.hid hq
  have HL := Lib.hid hl
  obtain ⟨q0, hq0⟩ : ∃ q0, q0 = q.getD 0 0 := ⟨_, rfl⟩
  rw [← hq0]
  have HQ0 := Lib.hid hq0
  have hsw := qSwap h (i := 0) (j := m) (by omega) (by omega) (by omega)
  have HSW := Lib.hid hsw
  clear h hh hb hc hq hl hsw hq0
  have hmn := @meth_len'
  have hms := @meth_swap'
  have hmp := @meth_pop
  have n1 := naLen
  have n2 := naSwap
  have n3 := naPop
  have hbnd : (m : Int) < 17592186044200 := by omega
  go_enter Try.func36, Try.ntmps36
  go_wp2_with fail
  refine (qLen (by omega)).mono ?_
  rintro e w1 ⟨rfl, hw1⟩
  rw [hw1]
  clear hw1
  go_wp2_with fail
  refine HSW.out.mono ?_
  rintro e w2 ⟨rfl, o2, f2⟩
  have cp2 := f2.cell (p := ⟨b, off, none⟩) (fun h => HB.out h) cp
  have F2 := Lib.hid f2
  have hdn : DownInv (swapL q 0 m) m 0 := by
    have hl := HL.out
    refine ⟨fun k h1 h2 h3 => ?_, fun k h1 h2 h3 h4 => by omega⟩
    rw [swapL_get q (by omega) (by omega), swapL_get q (by omega) (by omega), if_neg (by omega), if_neg (by omega), if_neg (by omega), if_neg (by omega)]
    exact HQ.out k h1 (by omega)
  have hdc := heapDown cp2 HB.out o2 (N := m + 1) (n := m) (by rw [swapL_length, HL.out]) (by omega) (by omega) hdn
  have HDC := Lib.hid hdc
  clear o2 f2 hdn hdc
  go_wp2_with fail
  refine HDC.out.mono ?_
  rintro e w3 ⟨⟨r, rfl⟩, q3, o3, l3, hp3, mm3, kk3, f3⟩
  have hf3 : Fr (fun k => (Value.slice a (m + 1) c).ownBlock = some k) w w3 := F2.out.trans f3 (fun _ _ h => h)
  have F3 := Lib.hid hf3
  have hpc := qPop o3 (by omega) (hf3.heap (fun h => HB.out h) HH.out) HC.out HB.out
  have hq3 : q3.getD m 0 = q0 := by
    have hl := HL.out
    rw [HQ0.out]
    show q3.getD m 0 = q.getD 0 0
    rw [kk3 m (Nat.le_refl _), swapL_get q (by omega) (by omega), if_pos rfl]
  rw [hq3] at hpc
  have HPC := Lib.hid hpc
  have HP3 := Lib.hid hp3
  have HM3 := Lib.hid mm3
  have HL3 := Lib.hid l3
  have HMA : Hid (∀ y, MemN q (m + 1) y → y = q0 ∨ MemN (swapL q 0 m) m y) := fun y hy => by
    have hl := HL.out
    rw [HQ0.out]
    obtain ⟨k, hk, he⟩ := (memN_swap (n := m + 1) (i := 0) (j := m) (by omega) (by omega) (by omega) y).2 hy
    rcases (show k = m ∨ k < m by omega) with rfl | h1
    · left
      rw [← he, swapL_get q (by omega) (by omega), if_pos rfl]
    · exact .inr ⟨k, h1, he⟩
  have HMB : Hid (∀ y, MemN (swapL q 0 m) m y → MemN q (m + 1) y) := fun y ⟨k, hk, he⟩ => by
    have hl := HL.out
    exact (memN_swap (n := m + 1) (i := 0) (j := m) (by omega) (by omega) (by omega) y).1 ⟨k, by omega, he⟩
  clear o3 hp3 mm3 l3 kk3 f3 hf3 hpc hq3
  go_wp2_with fail
  refine HPC.out.mono ?_
  rintro e w4 ⟨rfl, hqa⟩
  have HQA := Lib.hid hqa
  clear hqa
  go_wp2_with fail
  go_ret
  go_light
  refine ⟨rfl, q3.take m, QuAt.after F3.out HQA.out HB.out, fun k h1 h2 => ?_, by rw [List.length_take, HL3.out]; omega, fun y hy => ?_, fun y hy => ?_⟩
  · rw [take_get q3 h2, take_get q3 (by omega)]
    exact HP3.out k h1 h2
  · rcases HMA.out y hy with h | h
    · exact .inl h
    · exact .inr ((memN_take q3 m y).2 ((HM3.out y).2 h))
  · exact HMB.out y ((HM3.out y).1 ((memN_take q3 m y).1 hy))

set_option maxRecDepth 100000 in
set_option maxHeartbeats 1000000 in
theorem heapPush {w : World} {b off : Nat} {v : Value} {q : List Int} {x : Int} {cs : Array Value} {E : TypeId} (h : Own .i64 3 0 w v q) (hn : q.length < 17592186044150) (hx : (Lit.int .i64 x).wf = true) (hh : w.heap[b]? = some (.cells cs E (0, 0))) (hc : cs[off]? = some v) (hb : v.ownBlock ≠ some b) (hq : HeapN q q.length) :
    Calls Try.prog 40 #[.iface 58 (.pointer (some ⟨b, off, none⟩)), .iface 3 (.int .i64 x)] w fun e w' => e = .returned (.tuple #[]) ∧
      ∃ q' v', QuAt w w' b off v v' q' ∧ HeapN q' q'.length ∧ q'.length = q.length + 1 ∧ (∀ y, MemN q' q'.length y ↔ (y = x ∨ MemN q q.length y)) := by
  have hbl : b < w.heap.size := (Array.getElem?_eq_some_iff.1 hh).1
  have HBL := Lib.hid hbl
  have HH := Lib.hid hh
  have HB := Lib.hid hb
  have HQ := Lib.hid hq
  have hps := qPush h (by omega) hx hh hc hb
  have HPS := Lib.hid hps
  have hcz : off < cs.size := (Array.getElem?_eq_some_iff.1 hc).1
  have HCZ := Lib.hid hcz
  clear h hx hh hb hc hq hps hbl hcz
  have hmn := @meth_len'
  have hmp := @meth_push
  have n1 := naLen
  have n3 := naPush
  go_enter Try.func40, Try.ntmps40
  go_wp2_with fail
  refine HPS.out.mono ?_
  rintro e w2 ⟨rfl, v2, hq2⟩
  have hh2 := hq2.head _ _ HH.out
  have cp2 := cell_of_row w2 b off _ _ _ hh2
  rw [Array.getElem?_setIfInBounds_self_of_lt HCZ.out] at cp2
  have hb2 : v2.ownBlock ≠ some b := fun e => by
    rcases hq2.at_ with h1 | h1
    · exact HB.out (h1.symm.trans e)
    · have := h1 b e; have := HBL.out; omega
  obtain ⟨a2, c2, hv2⟩ := hq2.own.form
  have hlen : (q ++ [x]).length = q.length + 1 := by simp
  have hup : UpInv (q ++ [x]) (q.length + 1) q.length := by
    have hg : ∀ k, k < q.length → (q ++ [x]).getD k 0 = q.getD k 0 := fun k hk => by simp [List.getD_eq_getElem?_getD, List.getElem?_append_left hk]
    refine ⟨fun k h1 h2 h3 => ?_, fun k h1 h2 h3 h4 => by omega⟩
    rw [hg k (by omega), hg _ (by omega)]
    exact HQ.out k h1 (by omega)
  have huc := heapUp cp2 hb2 hq2.own (N := q.length + 1) (j0 := q.length) hlen.symm (by omega) (by omega) hup
  have HUC := Lib.hid huc
  have HQ2 := Lib.hid hq2
  have HMX : Hid (∀ y, MemN (q ++ [x]) (q.length + 1) y ↔ (y = x ∨ MemN q q.length y)) := fun y => by
    constructor
    · rintro ⟨k, hk, he⟩
      rcases (show k = q.length ∨ k < q.length by omega) with rfl | h1
      · left; rw [← he]; simp [List.getD_eq_getElem?_getD]
      · right; exact ⟨k, h1, by rw [← he]; simp [List.getD_eq_getElem?_getD, List.getElem?_append_left h1]⟩
    · rintro (rfl | ⟨k, hk, he⟩)
      · exact ⟨q.length, by omega, by simp [List.getD_eq_getElem?_getD]⟩
      · exact ⟨k, by omega, by rw [← he]; simp [List.getD_eq_getElem?_getD, List.getElem?_append_left hk]⟩
  rw [hlen] at hv2
  obtain ⟨n, hnn⟩ : ∃ n, n = q.length := ⟨_, rfl⟩
  rw [← hnn] at hn hv2 HUC HMX HQ
  have HNN := Lib.hid hnn
  subst hv2
  clear hq2 hh2 hup huc hlen hnn hb2
  go_wp2_with fail
  refine (qLen (n := n + 1) (by omega)).mono ?_
  rintro e w3 ⟨rfl, hw3⟩
  rw [hw3]
  clear hw3
  go_wp2_with fail
  refine HUC.out.mono ?_
  rintro e w4 ⟨rfl, q4, o4, l4, h4, m4, f4⟩
  have HO4 := Lib.hid o4
  have HL4 := Lib.hid l4
  have HH4 := Lib.hid h4
  have HM4 := Lib.hid m4
  have HF4 := Lib.hid f4
  clear o4 l4 h4 m4 f4
  go_wp2_with fail
  go_end0
  go_light
  exact ⟨rfl, q4, _, HQ2.out.then HF4.out HO4.out HB.out HBL.out, by rw [HL4.out]; exact HH4.out, by rw [HL4.out, HNN.out], fun y => by rw [HL4.out, ← HNN.out]; exact (HM4.out y).trans (HMX.out y)⟩
end Go.Proofs.Ytapagllebpcnhaa
