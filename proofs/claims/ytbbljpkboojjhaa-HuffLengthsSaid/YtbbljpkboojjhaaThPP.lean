/- The heap's Init, Pop and Push, over the queue of things. -/
import Derived.Test.YtbbljpkboojjhaaThUp
namespace Go.Proofs.Ytbbljpkboojjhaa
open Go.RowKit

theorem OwnT.set3 {D : Int → Th} {B : Nat} {w : World} {g n c i : Nat} {q : List Int} (h : OwnT D B w (.slice (some ⟨g, 0, none⟩) n c) q) (hi : i < n) (y : Int) :
    OwnT D B (((w.setCell ⟨g, i * 3, none⟩ (.int .i64 (D y).wt)).setCell ⟨g, i * 3 + 1, none⟩ (.int .i64 y)).setCell ⟨g, i * 3 + 2, none⟩ (.slice (D y).a (D y).l (D y).c)) (.slice (some ⟨g, 0, none⟩) n c) (q.set i y) := by
  have hl := h.len
  rcases h with ⟨hv, rfl⟩ | ⟨g', cap, cur, hv, hb, hg, hn, hm, hs, hr⟩
  · simp at hl; omega
  · cases hv
    refine .inr ⟨g, c, _, by rw [List.length_set], hb, heap_set (heap_set (heap_set hg _ _) _ _) _ _, by rw [List.length_set]; exact hn, hm, by simpa using hs, fun k hk => ?_⟩
    rw [List.length_set] at hk
    by_cases e2 : k = i
    · subst e2
      rw [show (q.set k y).getD k 0 = y from by rw [List.getD_eq_getElem?_getD, List.getElem?_set_self hk]; rfl]
      refine ⟨?_, ?_, ?_⟩
      · rw [Array.getElem?_setIfInBounds_ne (by omega), Array.getElem?_setIfInBounds_ne (by omega), Array.getElem?_setIfInBounds_self_of_lt (by omega)]
      · rw [Array.getElem?_setIfInBounds_ne (by omega), Array.getElem?_setIfInBounds_self_of_lt (by simp; omega)]
      · rw [Array.getElem?_setIfInBounds_self_of_lt (by simp; omega)]
    · rw [show (q.set i y).getD k 0 = q.getD k 0 from by rw [List.getD_eq_getElem?_getD, List.getElem?_set_ne (fun h => e2 h.symm), ← List.getD_eq_getElem?_getD]]
      have key : ∀ m, m < 3 → (((cur.setIfInBounds (i * 3) (.int .i64 (D y).wt)).setIfInBounds (i * 3 + 1) (.int .i64 y)).setIfInBounds (i * 3 + 2) (.slice (D y).a (D y).l (D y).c))[k * 3 + m]? = cur[k * 3 + m]? := fun m hm => by
        rw [Array.getElem?_setIfInBounds_ne (by omega), Array.getElem?_setIfInBounds_ne (by omega), Array.getElem?_setIfInBounds_ne (by omega)]
      obtain ⟨r0, r1, r2⟩ := hr k (by omega)
      exact ⟨(key 0 (by omega)).trans r0, (key 1 (by omega)).trans r1, (key 2 (by omega)).trans r2⟩

set_option maxHeartbeats 1000000 in
theorem tSwapSame {D : Int → Th} {w : World} {B : Nat} {v : Value} {q : List Int} {i : Nat} (h : OwnT D B w v q) (hi : i < q.length) (_hl : q.length ≤ 1000000000) :
    Calls Try.prog 64 #[v, .int .i64 i, .int .i64 i] w fun e w' => e = .returned (.tuple #[]) ∧ OwnT D B w' v (swapL q i i) ∧ Fr (fun k => v.ownBlock = some k) w w' := by
  obtain ⟨g, c, hv, _, c0, c1, c2, f, hc1⟩ := h.at hi
  subst hv
  have H := Lib.hid h
  obtain ⟨n, hn'⟩ : ∃ n, n = q.length := ⟨_, rfl⟩
  rw [← hn'] at hi _hl hc1 H ⊢
  obtain ⟨x, hx⟩ : ∃ x, x = q.getD i 0 := ⟨_, rfl⟩
  rw [← hx] at c0 c1 c2
  have HS := Lib.hid ((H.out.set3 hi x).set3 hi x)
  have HX : Hid (swapL q i i = (q.set i x).set i x) := by show _ = _; rw [swapL, ← hx]
  have t1 : (i : Int) < (n : Int) := by omega
  have t3 : (0 : Int) ≤ (i : Int) := by omega
  have f0 := f (i * 3)
  have f1 := f (i * 3 + 1)
  have f2 := f (i * 3 + 2)
  clear f h hn' hx H
  go_enter Try.func64, Try.ntmps64
  go_wp2_with fail
  go_region
  all_goals
    go_wp2_with fail
    go_end0
    go_light
    refine ⟨rfl, by rw [HX.out]; exact HS.out.keeps ((Fr.refl _ _).drew), ?_⟩
    exact (((((((Fr.refl (fun k => (Value.slice (some ⟨g, 0, none⟩) n c).ownBlock = some k) w).setAt rfl _ _).setAt rfl _ _).setAt rfl _ _).setAt rfl _ _).setAt rfl _ _).setAt rfl _ _).drew
theorem tSwapAny {D : Int → Th} {w : World} {B : Nat} {v : Value} {q : List Int} {i j : Nat} (h : OwnT D B w v q) (hi : i < q.length) (hj : j < q.length) (hl : q.length ≤ 1000000000) :
    Calls Try.prog 64 #[v, .int .i64 i, .int .i64 j] w fun e w' => e = .returned (.tuple #[]) ∧ OwnT D B w' v (swapL q i j) ∧ Fr (fun k => v.ownBlock = some k) w w' := by
  by_cases e : i = j
  · subst e; exact tSwapSame h hi hl
  · exact tSwap h hi hj e hl

theorem ThAt.after {D : Int → Th} {w w1 w' : World} {b off : Nat} {v v' : Value} {q' : List Int} (f : Fr (fun k => v.ownBlock = some k) w w1) (h : ThAt D w1 w' b off v v' q') (hb : v.ownBlock ≠ some b) : ThAt D w w' b off v v' q' :=
  ⟨h.own, fun cs E hh => h.head cs E (f.heap hb hh), (f.mono fun i _ h => .inr h).trans h.fr (fun i _ h => h), by
    rcases h.at_ with h1 | h1
    · exact .inl h1
    · exact .inr fun k hk => Nat.le_trans f.size (h1 k hk)⟩
theorem ThAt.then {D : Int → Th} {w w1 w' : World} {b off : Nat} {v v' : Value} {q q' : List Int} (h : ThAt D w w1 b off v v' q) (f : Fr (fun k => v'.ownBlock = some k) w1 w') (ho : OwnT D 0 w' v' q') (hb : v.ownBlock ≠ some b) (hbl : b < w.heap.size) : ThAt D w w' b off v v' q' := by
  have hb' : v'.ownBlock ≠ some b := fun e => by
    rcases h.at_ with h1 | h1
    · exact hb (h1.symm.trans e)
    · have := h1 b e; omega
  refine ⟨ho, fun cs E hh => f.heap (fun e => hb' e) (h.head cs E hh), h.fr.trans f (fun i hi e => ?_), h.at_⟩
  rcases h.at_ with h1 | h1
  · exact .inr (h1.symm.trans e)
  · have := h1 i e; omega
theorem take_get (q : List Int) {m k : Nat} (h : k < m) : (q.take m).getD k 0 = q.getD k 0 := by
  simp [List.getD_eq_getElem?_getD, h]

set_option maxRecDepth 100000 in
set_option maxHeartbeats 1000000 in
theorem heapInit {D : Int → Th} {w : World} {b off N : Nat} {v : Value} {q : List Int} (hc : w.cell? ⟨b, off, none⟩ = some v) (hb : v.ownBlock ≠ some b) (hq : OwnT D 0 w v q) (hN : N = q.length) (hN2 : N ≤ 100000000) (hnum : NumT q) :
    Calls Try.prog 32 #[.iface 65 (.pointer (some ⟨b, off, none⟩))] w fun e w' => e = .returned (.tuple #[]) ∧
      ∃ q', OwnT D 0 w' v q' ∧ q'.length = N ∧ HeapN (q'.map (keyT D)) N ∧ SameN q' q ∧ Fr (fun k => v.ownBlock = some k) w w' := by
  have HC := Lib.hid hc
  have HB := Lib.hid hb
  have HQ := Lib.hid hq
  have HN := Lib.hid hN
  have HNU := Lib.hid hnum
  obtain ⟨a, c, hv⟩ := hq.form
  rw [← hN] at hv
  subst hv
  have hmn := @meth_len'
  have n1 := naLen
  clear hb hq hN hnum
  go_enter Try.func32, Try.ntmps32
  go_wp2_with fail
  refine (tLen (by omega)).mono ?_
  rintro e w1 ⟨rfl, hw1⟩
  rw [hw1]
  clear hw1
  go_wp2_with fail
  go_loopw [3] (fun iv wr => ∃ (m : Nat) (q' : List Int), m ≤ N / 2 ∧ iv = .int .i64 ((m : Int) - 1) ∧ OwnT D 0 wr (.slice a N c) q' ∧ q'.length = N ∧ HeapL (q'.map (keyT D)) N m ∧ SameN q' q ∧ Fr (fun k => (Value.slice a N c).ownBlock = some k) w wr) (fun iv _ => (intOf iv + 1).toNat)
  case atStart => exact ⟨N / 2, q, by omega, congrArg (Value.int .i64) (by omega), HQ.out, HN.out.symm, fun k h1 h2 h3 => by omega, SameN.refl _, Fr.refl _ _⟩
  case round =>
    obtain ⟨m, q', hm, rfl, ho, hl, hd, hs, hf⟩ := hrel
    have hcr := hf.cell (p := ⟨b, off, none⟩) (fun h => HB.out h) hc
    by_cases hm0 : m = 0
    · subst hm0
      have HO := Lib.hid ho
      have HL := Lib.hid hl
      have HD := Lib.hid hd
      have HS := Lib.hid hs
      have HF := Lib.hid hf
      clear ho hl hd hs hf
      go_wp2_with fail
      go_end0
      go_light
      exact ⟨rfl, q', HO.out, HL.out, HD.out.heap, HS.out, HF.out⟩
    · obtain ⟨i, rfl⟩ : ∃ i, m = i + 1 := ⟨m - 1, by omega⟩
      have hti : ((i + 1 : Nat) : Int) - 1 = (i : Int) := by omega
      rw [hti]
      clear hti hm0
      have hdc := heapDown (n := N) (lo := i) hcr HB.out ho (N := N) hl.symm (Nat.le_refl _) (by omega) (HNU.out.same hs) (by omega) (DownL.start hd)
      have HDC := Lib.hid hdc
      have HF := Lib.hid hf
      have HS := Lib.hid hs
      clear ho hl hd hs hf hdc
      go_wp2_with fail
      refine HDC.out.mono ?_
      rintro e w3 ⟨⟨r, rfl⟩, q3, o3, l3, hp3, mm3, kk3, f3⟩
      have HO3 := Lib.hid o3
      have HL3 := Lib.hid l3
      have HP3 := Lib.hid hp3
      have HM3 := Lib.hid mm3
      have HF3 : Hid (Fr (fun k => (Value.slice a N c).ownBlock = some k) w w3) := HF.out.trans f3 (fun _ _ h => h)
      clear o3 l3 hp3 mm3 kk3 f3
      go_wp2_with fail
      go_roundw
      all_goals go_light
      case rel => exact ⟨i, q3, by omega, by first | rfl | go_num, HO3.out, HL3.out, HP3.out, HM3.out.trans HS.out, HF3.out⟩
      case measure => simp [intOf] <;> omega

set_option maxRecDepth 100000 in
set_option maxHeartbeats 1000000 in
theorem heapPop {D : Int → Th} {w : World} {b off m : Nat} {a : Option Addr} {c : Nat} {q : List Int} {cs : Array Value} {E : TypeId} (h : OwnT D 0 w (.slice a (m + 1) c) q) (hn : m < 100000000) (hh : w.heap[b]? = some (.cells cs E (0, 0))) (hc : cs[off]? = some (.slice a (m + 1) c)) (hb : (Value.slice a (m + 1) c).ownBlock ≠ some b) (hnum : NumT q) (hq : HeapN (q.map (keyT D)) (m + 1)) :
    Calls Try.prog 33 #[.iface 65 (.pointer (some ⟨b, off, none⟩))] w fun e w' => e = .returned (.iface 63 (.agg (cellsT D (q.getD 0 0)).toArray)) ∧
      ∃ q', ThAt D w w' b off (.slice a (m + 1) c) (.slice a m c) q' ∧ HeapN (q'.map (keyT D)) m ∧ q'.length = m ∧ (∀ s, cntL q' s + (if q.getD 0 0 = s then 1 else 0) = cntL q s) := by
  have hl : q.length = m + 1 := h.len
  have cp := cell_of_row w b off cs E (0, 0) hh
  rw [hc] at cp
  have H := Lib.hid h
  have HH := Lib.hid hh
  have HB := Lib.hid hb
  have HC := Lib.hid hc
  have HQ := Lib.hid hq
  have HL := Lib.hid hl
  have HNU := Lib.hid hnum
  obtain ⟨q0, hq0⟩ : ∃ q0, q0 = q.getD 0 0 := ⟨_, rfl⟩
  rw [← hq0]
  have HQ0 := Lib.hid hq0
  have hsw := tSwapAny h (i := 0) (j := m) (by omega) (by omega) (by omega)
  have HSW := Lib.hid hsw
  clear h hh hb hc hq hl hsw hq0 hnum
  have hmn := @meth_len'
  have hms := @meth_swap'
  have hmp := @meth_pop
  have n1 := naLen
  have n2 := naSwap
  have n3 := naPop
  have hbnd : (m : Int) < 100000000 := by omega
  go_enter Try.func33, Try.ntmps33
  go_wp2_with fail
  refine (tLen (by omega)).mono ?_
  rintro e w1 ⟨rfl, hw1⟩
  rw [hw1]
  clear hw1
  go_wp2_with fail
  refine HSW.out.mono ?_
  rintro e w2 ⟨rfl, o2, f2⟩
  have cp2 := f2.cell (p := ⟨b, off, none⟩) (fun h => HB.out h) cp
  have F2 := Lib.hid f2
  have hsm : SameN (swapL q 0 m) q := sameN_swap (by rw [HL.out]; omega) (by rw [HL.out]; omega)
  have HSM := Lib.hid hsm
  have hdn : DownL ((swapL q 0 m).map (keyT D)) m 0 0 := by
    have hl := HL.out
    refine DownL.start (fun k h1 h2 h3 => ?_)
    rw [map_swap D q (by omega) (by omega), swapL_get (q.map (keyT D)) (by simp; omega) (by simp; omega), swapL_get (q.map (keyT D)) (by simp; omega) (by simp; omega), if_neg (by omega), if_neg (by omega), if_neg (by omega), if_neg (by omega)]
    exact HQ.out k h1 (by omega)
  have hdc := heapDown (lo := 0) cp2 HB.out o2 (N := m + 1) (n := m) (by rw [swapL_length, HL.out]) (by omega) (by omega) (HNU.out.same hsm) (by omega) hdn
  have HDC := Lib.hid hdc
  clear o2 f2 hdn hdc hsm
  go_wp2_with fail
  refine HDC.out.mono ?_
  rintro e w3 ⟨⟨r, rfl⟩, q3, o3, l3, hp3, mm3, kk3, f3⟩
  have hf3 : Fr (fun k => (Value.slice a (m + 1) c).ownBlock = some k) w w3 := F2.out.trans f3 (fun _ _ h => h)
  have F3 := Lib.hid hf3
  have hpc := tPop o3 (by omega) (hf3.heap (fun h => HB.out h) HH.out) HC.out HB.out
  have hq3 : q3.getD m 0 = q0 := by
    have hl := HL.out
    rw [HQ0.out, kk3 m (Nat.le_refl _), swapL_get q (by omega) (by omega), if_pos rfl]
  have HCN : Hid (∀ s, cntL (q3.take m) s + (if q0 = s then 1 else 0) = cntL q s) := fun s => by
    have e : q3 = q3.take m ++ [q0] := by
      have h2 : m < q3.length := by omega
      have h3 : q3.take (m + 1) = q3.take m ++ [q3[m]] := (List.take_append_getElem h2).symm
      have h4 : q3.take (m + 1) = q3 := List.take_of_length_le (by omega)
      have h5 : q3[m] = q0 := by rw [← hq3, List.getD_eq_getElem?_getD, List.getElem?_eq_getElem h2]; rfl
      rw [h4, h5] at h3
      exact h3
    have h1 := (mm3.trans HSM.out) s
    rw [e, cntL_append] at h1
    rw [← h1, cntL_cons]
    simp [cntL]
  rw [hq3] at hpc
  have HPC := Lib.hid hpc
  have HP3 := Lib.hid hp3.heap
  have HL3 := Lib.hid l3
  clear o3 hp3 mm3 l3 kk3 f3 hf3 hpc hq3
  go_wp2_with fail
  refine HPC.out.mono ?_
  rintro e w4 ⟨rfl, hqa⟩
  have HQA := Lib.hid hqa
  clear hqa
  go_wp2_with fail
  go_ret
  go_light
  refine ⟨rfl, q3.take m, ThAt.after F3.out HQA.out HB.out, fun k h1 h2 => ?_, by rw [List.length_take, HL3.out]; omega, HCN.out⟩
  rw [List.map_take, take_get _ h2, take_get _ (by omega)]
  exact HP3.out k h1 h2

set_option maxRecDepth 100000 in
set_option maxHeartbeats 1000000 in
theorem heapPush {D : Int → Th} {w : World} {b off : Nat} {v : Value} {q : List Int} {x : Int} {cs : Array Value} {E : TypeId} (h : OwnT D 0 w v q) (hn : q.length < 90000000) (hh : w.heap[b]? = some (.cells cs E (0, 0))) (hc : cs[off]? = some v) (hb : v.ownBlock ≠ some b) (hnum : NumT (q ++ [x])) (hq : HeapN (q.map (keyT D)) q.length) :
    Calls Try.prog 35 #[.iface 65 (.pointer (some ⟨b, off, none⟩)), .iface 63 (.agg (cellsT D x).toArray)] w fun e w' => e = .returned (.tuple #[]) ∧
      ∃ q' v', ThAt D w w' b off v v' q' ∧ HeapN (q'.map (keyT D)) q'.length ∧ q'.length = q.length + 1 ∧ SameN q' (q ++ [x]) := by
  have hbl : b < w.heap.size := (Array.getElem?_eq_some_iff.1 hh).1
  have HBL := Lib.hid hbl
  have HH := Lib.hid hh
  have HB := Lib.hid hb
  have HQ := Lib.hid hq
  have HNU := Lib.hid hnum
  have hps := tPush (x := x) h (by omega) hh hc hb
  have HPS := Lib.hid hps
  have hcz : off < cs.size := (Array.getElem?_eq_some_iff.1 hc).1
  have HCZ := Lib.hid hcz
  clear h hh hb hc hq hps hbl hcz hnum
  have hmn := @meth_len'
  have hmp := @meth_push
  have n1 := naLen
  have n3 := naPush
  generalize hX : Value.iface 63 (.agg (cellsT D x).toArray) = X at *
  go_enter Try.func35, Try.ntmps35
  go_wp2_with fail
  refine HPS.out.mono ?_
  rintro e w2 ⟨rfl, v2, hq2⟩
  have hh2 := hq2.head _ _ HH.out
  have cp2 := cell_of_row w2 b off _ _ _ hh2
  rw [Array.getElem?_setIfInBounds_self_of_lt HCZ.out] at cp2
  have hb2 : v2.ownBlock ≠ some b := fun e => by
    rcases hq2.at_ with h1 | h1
    · exact HB.out (h1.symm.trans e)
    · have := h1 b e; have := HBL.out; omega
  obtain ⟨a2, c2, hv2⟩ := hq2.own.form
  have hlen : (q ++ [x]).length = q.length + 1 := by simp
  have hup : UpInv ((q ++ [x]).map (keyT D)) (q.length + 1) q.length := by
    have hg : ∀ k, k < q.length → ((q ++ [x]).map (keyT D)).getD k 0 = (q.map (keyT D)).getD k 0 := fun k hk => by
      rw [List.map_append, List.getD_eq_getElem?_getD, List.getElem?_append_left (by simpa using hk), ← List.getD_eq_getElem?_getD]
    refine ⟨fun k h1 h2 h3 => ?_, fun k h1 h2 h3 h4 => by omega⟩
    rw [hg k (by omega), hg _ (by omega)]
    exact HQ.out k h1 (by omega)
  have huc := heapUp cp2 hb2 hq2.own (N := q.length + 1) (j0 := q.length) hlen.symm (by omega) (by omega) HNU.out hup
  have HUC := Lib.hid huc
  have HQ2 := Lib.hid hq2
  rw [hlen] at hv2
  obtain ⟨n, hnn⟩ : ∃ n, n = q.length := ⟨_, rfl⟩
  rw [← hnn] at hn hv2 HUC HQ
  have HNN := Lib.hid hnn
  subst hv2
  clear hq2 hh2 hup huc hlen hnn hb2
  go_wp2_with fail
  refine (tLen (n := n + 1) (by omega)).mono ?_
  rintro e w3 ⟨rfl, hw3⟩
  rw [hw3]
  clear hw3
  go_wp2_with fail
  refine HUC.out.mono ?_
  rintro e w4 ⟨rfl, q4, o4, l4, h4, m4, f4⟩
  have HO4 := Lib.hid o4
  have HL4 := Lib.hid l4
  have HH4 := Lib.hid h4
  have HM4 := Lib.hid m4
  have HF4 := Lib.hid f4
  clear o4 l4 h4 m4 f4
  go_wp2_with fail
  go_end0
  go_light
  exact ⟨rfl, q4, _, HQ2.out.then HF4.out HO4.out HB.out HBL.out, by rw [HL4.out]; exact HH4.out, by rw [HL4.out, HNN.out], HM4.out⟩
end Go.Proofs.Ytbbljpkboojjhaa
