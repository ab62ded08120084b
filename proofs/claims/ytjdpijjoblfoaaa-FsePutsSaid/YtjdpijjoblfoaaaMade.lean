/- fse's made: the table of a share. -/
import Derived.Test.YtjdpijjoblfoaaaTabNew
namespace Go.Proofs.Ytjdpijjoblfoaaa
open Go.RowKit

/-- the table's block, while symbols are laid -/
def Ph1 (w : World) (T S : Nat) (P : List Int) : Prop := ∃ C : Array Value, w.heap[T]? = some (.cells C 55 (0, 0)) ∧ C.size = 1601 ∧ C[1600]? = some (.int .i64 (S : Int)) ∧ P.length = S ∧ S ≤ 512 ∧
  (∀ p, p < S → C[p * 3]? = some (.int .i64 (P.getD p 0))) ∧ (∀ s, s < 64 → C[1536 + s]? = some (.slice none 0 0))
theorem Ph1.fr {R : Nat → Prop} {w w' : World} {T S : Nat} {P : List Int} (h : Ph1 w T S P) (f : Fr R w w') (hT : ¬ R T) : Ph1 w' T S P := by
  obtain ⟨C, h1, h2⟩ := h
  exact ⟨C, f.heap hT h1, h2⟩
theorem Ph1.set {w : World} {T S : Nat} {P : List Int} (h : Ph1 w T S P) {q : Nat} (hq : q < S) (s : Int) : Ph1 (w.setCell ⟨T, q * 3, none⟩ (.int .i64 s)) T S (P.set q s) := by
  obtain ⟨C, h1, h2, h3, h4, h5, h6, h7⟩ := h
  refine ⟨C.setIfInBounds (q * 3) (.int .i64 s), heap_set h1 _ _, by simpa using h2, ?_, by simpa using h4, h5, fun p hp => ?_, fun s' hs => ?_⟩
  · rw [Array.getElem?_setIfInBounds_ne (by omega)]; exact h3
  · by_cases e : p = q
    · subst e
      have : p * 3 < C.size := by omega
      simp [this, List.getD_eq_getElem?_getD, h4, hp]
    · rw [Array.getElem?_setIfInBounds_ne (by omega), h6 p hp, List.getD_eq_getElem?_getD, List.getD_eq_getElem?_getD, List.getElem?_set_ne (fun h => e h.symm)]
  · rw [Array.getElem?_setIfInBounds_ne (by omega)]; exact h7 s' hs
theorem Ph1.at {w : World} {T S : Nat} {P : List Int} (h : Ph1 w T S P) {q : Nat} (hq : q < S) : w.cell? ⟨T, q * 3, none⟩ = some (.int .i64 (P.getD q 0)) ∧ (∀ i, w.frozen? ⟨T, i, none⟩ = false) ∧ w.cell? ⟨T, 1600, none⟩ = some (.int .i64 (S : Int)) := by
  obtain ⟨C, h1, h2, h3, h4, h5, h6, h7⟩ := h
  exact ⟨by rw [cell_of_row _ _ _ _ _ _ h1]; exact h6 q hq, fun i => frozen_no h1 i, by rw [cell_of_row _ _ _ _ _ _ h1]; exact h3⟩
theorem stepS_lt {S p : Nat} (h : 0 < S) : stepS S p < S := Nat.mod_lt _ h
theorem fillS_lt {S : Nat} (h : 0 < S) (s : Int) {P : List Int} {q : Nat} (hq : q < S) : ∀ n, (fillS S s (P, q) n).2 < S
  | 0 => hq
  | _ + 1 => stepS_lt h
theorem spreadS_lt {S : Nat} (h : 0 < S) (zs : List Int) : ∀ k, (spreadS S zs k).2 < S
  | 0 => h
  | k + 1 => by
    simp only [spreadS]
    exact fillS_lt h _ (spreadS_lt h zs k) _

/-- the table's block, while the numbers are laid: p of them are -/
def Ph2 (w : World) (T B S K : Nat) (zs P : List Int) (nv : Value) (p : Nat) : Prop :=
  ∃ (C : Array Value) (V : Nat → Value) (nx : List Int), w.heap[T]? = some (.cells C 55 (0, 0)) ∧ C.size = 1601 ∧ C[1600]? = some (.int .i64 (S : Int)) ∧
    (∀ q, q < S → C[q * 3]? = some (.int .i64 (P.getD q 0))) ∧
    (∀ q, q < p → C[q * 3 + 1]? = some (.int .i64 (shlN 10 (xP zs P q) (S : Int) : Nat)) ∧ C[q * 3 + 2]? = some (.int .i64 (xP zs P q * 2 ^ shlN 10 (xP zs P q) (S : Int) - (S : Int)))) ∧
    (∀ s, s < 64 → C[1536 + s]? = some (V s) ∧ Own .i64 3 B w (V s) (posP P s p)) ∧
    (∀ s s' b, s < 64 → s' < 64 → (V s).ownBlock = some b → (V s').ownBlock = some b → s = s') ∧
    Own .i64 3 0 w nv nx ∧ nx.length = K ∧ (∀ s, s < K → nx.getD s 0 = zs.getD s 0 + ((posP P s p).length : Int))

theorem posP_le (P : List Int) (s : Int) : ∀ k, (posP P s k).length ≤ k
  | 0 => by simp [posP]
  | k + 1 => by
    have := posP_le P s k
    simp only [posP]
    split
    · rw [List.length_append, List.length_singleton]; omega
    · omega
theorem ph2_next {wr w6 w7 w3 : World} {T S K : Nat} {zs P nx : List Int} {nb nc p j bq : Nat} {x base : Int} {C : Array Value} {V : Nat → Value} {nv : Value}
    (h1 : wr.heap[T]? = some (.cells C 55 (0, 0))) (h2 : C.size = 1601) (h3 : C[1600]? = some (.int .i64 (S : Int)))
    (h4 : ∀ q, q < S → C[q * 3]? = some (.int .i64 (P.getD q 0)))
    (h5 : ∀ q, q < p → C[q * 3 + 1]? = some (.int .i64 (shlN 10 (xP zs P q) (S : Int) : Nat)) ∧ C[q * 3 + 2]? = some (.int .i64 (xP zs P q * 2 ^ shlN 10 (xP zs P q) (S : Int) - (S : Int))))
    (h6 : ∀ s, s < 64 → C[1536 + s]? = some (V s) ∧ Own .i64 3 w3.heap.size wr (V s) (posP P s p))
    (h7 : ∀ s s' b, s < 64 → s' < 64 → (V s).ownBlock = some b → (V s').ownBlock = some b → s = s')
    (h8 : Own .i64 3 0 wr (.slice (some ⟨nb, 0, none⟩) K nc) nx) (h9 : nx.length = K) (h10 : ∀ s, s < K → nx.getD s 0 = zs.getD s 0 + ((posP P s p).length : Int))
    (hT : T < w3.heap.size) (hnb : nb < w3.heap.size) (hne : T ≠ nb) (hp : p < S) (hS : S ≤ 512) (hj : P.getD p 0 = (j : Int)) (hjk : j < K) (hj64 : j < 64) (hx : x = xP zs P p) (hx3 : x = zs.getD j 0 + ((posP P j p).length : Int)) (hbq : bq = shlN 10 x (S : Int)) (hbase : base = x * 2 ^ bq - (S : Int))
    (hxb : 1 ≤ x ∧ x < 1024) (hfr : Fr (fun i => i = T ∨ i = nb) w3 wr)
    (hw6 : w6 = (((wr.setCell ⟨nb, j, none⟩ (.int .i64 (x + 1))).setCell ⟨T, p * 3 + 1, none⟩ (.int .i64 (bq : Int))).setCell ⟨T, p * 3 + 2, none⟩ (.int .i64 base)).drew)
    (own7 : Own .i64 3 w3.heap.size w7 nv (posP P j p ++ [(p : Int)])) (f7 : Fr (fun i => (V j).ownBlock = some i) w6 w7) (at7 : nv.ownBlock = (V j).ownBlock ∨ nv.ownBlock = some (w6.heap.size + 1)) :
    Ph2 (w7.setCell ⟨T, 1536 + j, none⟩ nv) T w3.heap.size S K zs P (.slice (some ⟨nb, 0, none⟩) K nc) (p + 1) ∧ Fr (fun i => i = T ∨ i = nb) w3 (w7.setCell ⟨T, 1536 + j, none⟩ nv) := by
  have hVT : ∀ s, s < 64 → ∀ b, (V s).ownBlock = some b → w3.heap.size ≤ b ∧ b < wr.heap.size := fun s hs b hb => (h6 s hs).2.lt b hb
  have f6 : Fr (fun i => i = T ∨ i = nb) wr w6 := by
    rw [hw6]
    exact (((((Fr.refl (fun i => i = T ∨ i = nb) wr).setAt (b := nb) (.inr rfl) j _).setAt (b := T) (.inl rfl) (p * 3 + 1) _).setAt (b := T) (.inl rfl) (p * 3 + 2) _)).drew
  have hs6 : wr.heap.size ≤ w6.heap.size := f6.size
  have hT6 : w6.heap[T]? = some (.cells ((C.setIfInBounds (p * 3 + 1) (.int .i64 (bq : Int))).setIfInBounds (p * 3 + 2) (.int .i64 base)) 55 (0, 0)) := by
    rw [hw6]
    have g1 : (wr.setCell ⟨nb, j, none⟩ (.int .i64 (x + 1))).heap[T]? = some (.cells C 55 (0, 0)) := ((Fr.refl (fun i => i = nb) wr).setAt (b := nb) rfl j _).heap hne h1
    exact heap_drew (heap_set (heap_set g1 _ _) _ _)
  have hT7 := f7.heap (fun h => by have := (hVT j hj64 T h).1; omega) hT6
  have hfT : ∀ u, Fr (fun i => i = T) w7 (w7.setCell ⟨T, 1536 + j, none⟩ u) := fun u => (Fr.refl (fun i => i = T) w7).setAt rfl _ _
  have hn8 : Own .i64 3 0 w6 (.slice (some ⟨nb, 0, none⟩) K nc) (nx.set j (x + 1)) := by
    rw [hw6]
    have g1 := h8.set j (y := x + 1) (by simp [Lit.wf, IntKind.min, IntKind.max, IntKind.signed, IntKind.bits]; omega)
    exact g1.fr (((((Fr.refl (fun i => i = T) _).setAt (b := T) rfl (p * 3 + 1) _).setAt (b := T) rfl (p * 3 + 2) _)).drew) (fun b hb e => by cases hb; exact hne e.symm)
  have hval : ∀ (m : Nat), m ≠ p * 3 + 1 → m ≠ p * 3 + 2 → m ≠ 1536 + j → (((C.setIfInBounds (p * 3 + 1) (.int .i64 (bq : Int))).setIfInBounds (p * 3 + 2) (.int .i64 base)).setIfInBounds (1536 + j) nv)[m]? = C[m]? := fun m a b c => by
    rw [Array.getElem?_setIfInBounds_ne (fun e => c e.symm), Array.getElem?_setIfInBounds_ne (fun e => b e.symm), Array.getElem?_setIfInBounds_ne (fun e => a e.symm)]
  refine ⟨⟨((C.setIfInBounds (p * 3 + 1) (.int .i64 (bq : Int))).setIfInBounds (p * 3 + 2) (.int .i64 base)).setIfInBounds (1536 + j) nv, fun s => if s = j then nv else V s, nx.set j (x + 1), heap_set hT7 _ _, by simpa using h2, ?_, fun q hq => ?_, fun q hq => ?_, fun s hs => ?_, fun s s' b hs hs' hb hb' => ?_, ?_, by rw [List.length_set]; exact h9, fun s hs => ?_⟩, ?_⟩
  · rw [hval _ (by omega) (by omega) (by omega)]; exact h3
  · rw [hval _ (by omega) (by omega) (by omega)]; exact h4 q hq
  · by_cases e : q = p
    · subst e
      refine ⟨?_, ?_⟩
      · rw [Array.getElem?_setIfInBounds_ne (by omega), Array.getElem?_setIfInBounds_ne (by omega), ← hx, ← hbq]
        have : q * 3 + 1 < C.size := by omega
        simp [this]
      · rw [Array.getElem?_setIfInBounds_ne (by omega), ← hx, ← hbq, ← hbase]
        have : q * 3 + 2 < C.size := by omega
        simp [this]
    · rw [hval _ (by omega) (by omega) (by omega), hval _ (by omega) (by omega) (by omega)]
      exact h5 q (by omega)
  · by_cases e : s = j
    · subst e
      dsimp only
      rw [if_pos rfl]
      refine ⟨?_, ?_⟩
      · have : 1536 + s < C.size := by omega
        simp [this]
      · have e2 : posP P (s : Int) (p + 1) = posP P s p ++ [(p : Int)] := by simp only [posP]; rw [if_pos hj]
        rw [e2]
        exact own7.fr (hfT nv) (fun b hb h => by have h : b = T := h; have := (own7.lt b hb).1; omega)
    · dsimp only
      rw [if_neg e, hval _ (by omega) (by omega) (by omega)]
      refine ⟨(h6 s hs).1, ?_⟩
      have e2 : posP P (s : Int) (p + 1) = posP P s p := by simp only [posP]; rw [if_neg (fun h => e (by rw [hj] at h; omega))]
      rw [e2]
      have g1 := (h6 s hs).2.fr f6 (fun b hb h => by have := (hVT s hs b hb).1; omega)
      have g2 := g1.fr f7 (fun b hb h => e (h7 s j b hs hj64 hb h))
      exact g2.fr (hfT nv) (fun b hb h => by have h : b = T := h; have := (hVT s hs b hb).1; omega)
  · have hfresh : ∀ s, s < 64 → ∀ b, (V s).ownBlock = some b → b ≠ w6.heap.size + 1 := fun s hs b hb => by have := (hVT s hs b hb).2; omega
    dsimp only at hb hb'
    by_cases e : s = j
    · by_cases e' : s' = j
      · rw [e, e']
      · rw [if_pos e] at hb
        rw [if_neg e'] at hb'
        rcases at7 with h | h
        · rw [h] at hb; rw [e]; exact h7 j s' b hj64 hs' hb hb'
        · rw [h] at hb; cases hb; exact absurd rfl (hfresh s' hs' _ hb')
    · by_cases e' : s' = j
      · rw [if_neg e] at hb
        rw [if_pos e'] at hb'
        rcases at7 with h | h
        · rw [h] at hb'; rw [e']; exact h7 s j b hs hj64 hb hb'
        · rw [h] at hb'; cases hb'; exact absurd rfl (hfresh s hs _ hb)
      · rw [if_neg e] at hb
        rw [if_neg e'] at hb'
        exact h7 s s' b hs hs' hb hb'
  · have g2 := hn8.fr f7 (fun b hb h => by cases hb; have := (hVT j hj64 nb h).1; omega)
    exact g2.fr (hfT nv) (fun b hb h => by cases hb; exact hne h.symm)
  · by_cases e : s = j
    · subst e
      rw [List.getD_eq_getElem?_getD, List.getElem?_set_self (by omega)]
      have := posP_at (P := P) (s := (s : Int)) (p := p) hj
      rw [this]
      simp only [Option.getD_some]
      omega
    · rw [List.getD_eq_getElem?_getD, List.getElem?_set_ne (fun h => e h.symm), ← List.getD_eq_getElem?_getD, h10 s hs]
      have e2 : posP P (s : Int) (p + 1) = posP P s p := by simp only [posP]; rw [if_neg (fun h => e (by rw [hj] at h; omega))]
      rw [e2]
  · refine ((hfr.trans f6 (fun _ _ h => h)).trans f7 (fun i hi h => ?_)).trans (hfT nv) (fun i hi h => .inl h)
    have := (hVT j hj64 i h).1
    omega

set_option maxRecDepth 100000 in
set_option maxHeartbeats 4000000 in
theorem madeTab {v : Value} {zs : List Int} {log : Int} {w : World} (h : Ints .i64 w v zs) (hm : ShMay zs log) :
    Calls Try.prog 29 #[v, .int .i64 log] w fun e w' => ∃ T, e = .returned (.pointer (some ⟨T, 0, none⟩)) ∧ Tab w' T w.heap.size w'.heap.size zs (2 ^ log.toNat) ∧ Keeps w w' := by
  have HV := Lib.hid h
  obtain ⟨va, vc, rfl⟩ := h.form
  obtain ⟨K, hK⟩ : ∃ K, K = zs.length := ⟨_, rfl⟩
  have hK64 : K ≤ 64 := by have := hm.2.2.2.1; omega
  have hK0 : 0 < K := by have := hm.2.2.1; omega
  rw [← hK] at HV ⊢
  have HK := Lib.hid hK
  obtain ⟨lg, rfl⟩ : ∃ lg : Nat, log = (lg : Int) := ⟨log.toNat, by have := hm.1; omega⟩
  have hlg : lg ≤ 9 := by have := hm.2.1; omega
  have HM := Lib.hid hm
  obtain ⟨S, hS⟩ : ∃ S, S = 2 ^ ((lg : Nat) : Int).toNat := ⟨_, rfl⟩
  have hS5 : 32 ≤ S ∧ S ≤ 512 := by rw [hS]; exact pow_logN ⟨hm.1, hm.2.1⟩
  rw [← hS]
  have hSi : (2 : Int) ^ lg = (S : Int) := by rw [hS, Int.toNat_natCast]; simp
  have HS := Lib.hid hS
  obtain ⟨C, hC, hCs, hC0, hCn, hCS⟩ := builtTable (.int .i64 (S : Int)) rfl
  have HCB := Lib.hid hC
  have HP0 : Hid (∀ w : World, Ph1 (w.alloc (.cells C 55)) w.heap.size S (spreadS S zs 0).1) := fun w => ⟨C, heap_alloc_new w _, hCs, hCS, by simp [spreadS], hS5.2, fun p hp => by rw [hC0 _ (by omega)]; simp [spreadS, List.getD_eq_getElem?_getD, hp], hCn⟩
  have HCC := Lib.hid hCs
  have HNN : Hid (∀ z ∈ zs, 0 ≤ z) := hm.2.2.2.2.2.1
  clear hS hC hC0 hCn hCS hCs h hm hK
  go_enter Try.func29, Try.ntmps29
  go_wp2_with (refine wpList_built1 rfl 55 2 (.tmp 14) rfl (.int .i64 (S : Int)) (by first | rfl | simp [hSi]) HCB.out ?_)
  have HP1 : Hid (Ph1 (w.alloc (.cells C 55)) w.heap.size S (spreadS S zs 0).1) := HP0.out w
  have HS0 : Hid (0 < S) := by show 0 < S; omega
  go_loopw [19, 6] (fun iv av wr => ∃ k : Nat, k ≤ K ∧ iv = .int .i64 k ∧ av = .int .i64 ((spreadS S zs k).2 : Nat) ∧ Ph1 wr w.heap.size S (spreadS S zs k).1 ∧ Fr (fun i => i = w.heap.size) (w.alloc (.cells C 55)) wr) (fun iv _ _ => K - (intOf iv).toNat)
  case atStart => exact ⟨0, by omega, rfl, rfl, HP1.out, Fr.refl _ _⟩
  case round =>
    obtain ⟨k, hk, rfl, rfl, hp, hfr⟩ := hrel
    have HP := Lib.hid hp
    have FR := Lib.hid hfr
    by_cases hlt : k < K
    case pos =>
      obtain ⟨b, off, hva, ck⟩ : ∃ b off, va = some ⟨b, off, none⟩ ∧ wr.cell? ⟨b, off + k, none⟩ = some (.int .i64 (zs.getD k 0)) := by
        have h1 := (HV.out.keeps ((Fr.refl _ _).alloc (.cells C 55))).fr hfr (fun x n c e h0 h => by cases e; have h : x.block = w.heap.size := h; have := HV.out.blk h0 x rfl; omega)
        obtain ⟨_, a', c', e, _, _, _, hcc⟩ := h1
        injection e with e1
        subst e1
        exact hcc k (by rw [← HK.out]; exact hlt)
      subst hva
      obtain ⟨zk, hzk⟩ : ∃ zk : Nat, zs.getD k 0 = (zk : Int) := ⟨(zs.getD k 0).toNat, by have := HNN.out _ (getD_mem (zs := zs) (k := k) (by rw [← HK.out]; exact hlt)); omega⟩
      rw [hzk] at ck
      have hzk5 : zk ≤ 512 := by
        have h1 := sum_ge HNN.out (i := k)
        have h2 := share_size HM.out
        rw [← HS.out] at h2
        omega
      have HNX : Hid (spreadS S zs (k + 1) = fillS S k ((spreadS S zs k).1, (spreadS S zs k).2) zk) := by
        show _ = _
        simp only [spreadS]
        rw [hzk, Int.toNat_natCast]
      obtain ⟨P0, hP0⟩ : ∃ x, x = (spreadS S zs k).1 := ⟨_, rfl⟩
      obtain ⟨q0, hq0⟩ : ∃ x, x = (spreadS S zs k).2 := ⟨_, rfl⟩
      have hq0S : q0 < S := by rw [hq0]; exact spreadS_lt HS0.out zs k
      rw [← hP0] at HP HNX
      rw [← hq0] at HNX ⊢
      clear hp hfr hzk hP0 hq0
      have HQ0 := Lib.hid hq0S
      go_wp2_with fail
      go_loopw [25, 6] (fun jv av wx => ∃ j : Nat, j ≤ zk ∧ jv = .int .i64 j ∧ av = .int .i64 ((fillS S k (P0, q0) j).2 : Nat) ∧ Ph1 wx w.heap.size S (fillS S k (P0, q0) j).1 ∧ Fr (fun i => i = w.heap.size) (w.alloc (.cells C 55)) wx) (fun jv _ _ => zk - (intOf jv).toNat)
      case atStart => exact ⟨0, by omega, rfl, rfl, HP.out, FR.out⟩
      case round =>
        obtain ⟨j, hj, rfl, rfl, hp2, hfr2⟩ := hrel
        have HP2 := Lib.hid hp2
        have FR2 := Lib.hid hfr2
        have hq := fillS_lt HS0.out (k : Int) (P := P0) HQ0.out j
        have HNX2 : Hid (fillS S k (P0, q0) (j + 1) = ((fillS S k (P0, q0) j).1.set (fillS S k (P0, q0) j).2 k, stepS S (fillS S k (P0, q0) j).2)) := rfl
        obtain ⟨Q, hQ⟩ : ∃ x, x = (fillS S k (P0, q0) j).1 := ⟨_, rfl⟩
        obtain ⟨q, hqe⟩ : ∃ x, x = (fillS S k (P0, q0) j).2 := ⟨_, rfl⟩
        have HQE : Hid (fillS S k (P0, q0) j = (Q, q)) := by show _ = _; rw [hQ, hqe]
        rw [← hQ] at HP2 HNX2
        rw [← hqe] at hq HNX2 ⊢
        obtain ⟨cq, fq, cS⟩ := HP2.out.at hq
        have hqi : (q : Int) < 512 := by omega
        have hqn : (q : Int) < (S : Int) := by omega
        clear hp2 hfr2 hQ hqe
        by_cases hlt2 : j < zk
        case pos =>
          have hps := HP2.out.set hq (k : Int)
          have HPS := Lib.hid hps
          clear hps
          go_wp2_with fail
          go_quiet (fail)
          go_wp2_with fail
          go_roundw
          all_goals go_light
          case rel =>
            refine ⟨j + 1, by omega, by go_num, by rw [HNX2.out]; simp [stepS], ?_, ?_⟩
            · rw [HNX2.out]
              exact HPS.out.fr ((Fr.refl (fun _ => False) _).drewN _) (fun h => h)
            · exact ((FR2.out.setAt (b := w.heap.size) rfl (q * 3) (.int .i64 (k : Int)))).drewN _
          case measure => simp [intOf]; omega
        case neg =>
          obtain rfl : j = zk := by omega
          go_wp2_with fail
          go_roundw
          all_goals go_light
          case rel => exact ⟨k + 1, by omega, by go_num, by rw [HNX.out, HQE.out], by rw [HNX.out, HQE.out]; exact HP2.out, FR2.out⟩
          case measure => simp [intOf]; omega
    case neg =>
      obtain rfl : k = K := by omega
      obtain ⟨P, hP⟩ : ∃ x, x = symP S zs := ⟨_, rfl⟩
      have HPE : Hid ((spreadS S zs k).1 = P) := by show _ = _; rw [hP, HK.out]; rfl
      rw [HPE.out] at HP
      have HPP := Lib.hid hP
      have hvw : Ints .i64 wr (.slice va k vc) zs := (HV.out.keeps ((Fr.refl _ _).alloc (.cells C 55))).fr hfr (fun x n c e h0 h => by cases e; have h : x.block = w.heap.size := h; have := HV.out.blk h0 x rfl; omega)
      have HVW := Lib.hid hvw
      clear hp hfr hP hvw
      generalize ((spreadS S zs k).2 : Int) = atv at *
      go_wp2_with fail
      refine (cloneInts HVW.out (by have := HK.out; omega) (by have := HK.out; omega)).mono ?_
      rintro e3 w3 ⟨nv, rfl, hnx, k3⟩
      have HNV := Lib.hid hnx
      have HP3 := Lib.hid (HP.out.fr k3 (fun h => h))
      have K3 := Lib.hid k3
      obtain ⟨nb, nc, rfl, _, _, _, hnl⟩ := hnx.formNe (by rw [← HK.out]; exact hK0)
      rw [← HK.out] at HNV ⊢
      have hTw : w.heap.size < wr.heap.size := by have := FR.out.size; simp at this; omega
      have hT3 : w.heap.size < w3.heap.size := by have := K3.out.size; omega
      have hnT : wr.heap.size ≤ nb := (hnx.lt nb rfl).1
      obtain ⟨_, _, cS3⟩ := HP3.out.at (q := 0) HS0.out
      have HPH : Hid (Ph2 w3 w.heap.size w3.heap.size S k zs P (.slice (some ⟨nb, 0, none⟩) k nc) 0) := by
        obtain ⟨C3, h1, h2, h3, h4, h5, h6, h7⟩ := HP3.out
        refine ⟨C3, fun _ => .slice none 0 0, zs, h1, h2, h3, h6, fun q hq => by omega, fun s hs => ⟨h7 s hs, Own.nil _ _ _ _⟩, (fun s s' b _ _ h _ => by cases h), HNV.out.mono (Nat.zero_le _), HK.out.symm, fun s hs => by simp [posP]⟩
      have HSB := Lib.hid (fun (p : Nat) (h : p < 2 ^ ((lg : Nat) : Int).toNat) => xP_bound (zs := zs) HM.out h)
      rw [← HS.out, ← HPP.out] at HSB
      have HSH := Lib.hid (fun (x : Int) (h0 : 1 ≤ x) (h1 : x < 2 * ((2 ^ ((lg : Nat) : Int).toNat : Nat) : Int)) => shlN_spec (log := (lg : Int)) ⟨HM.out.1, HM.out.2.1⟩ h0 h1)
      rw [← HS.out] at HSH
      clear hnx k3
      obtain ⟨T, hT⟩ : ∃ T, T = w.heap.size := ⟨_, rfl⟩
      rw [← hT] at HPH cS3 hT3 hTw ⊢
      have HTT := Lib.hid hT
      clear hT
      go_wp2_with fail
      go_loopw [61] (fun iv wx => ∃ p : Nat, p ≤ S ∧ iv = .int .i64 p ∧ Ph2 wx T w3.heap.size S k zs P (.slice (some ⟨nb, 0, none⟩) k nc) p ∧ Fr (fun i => i = T ∨ i = nb) w3 wx) (fun iv _ => S - (intOf iv).toNat)
      case atStart => exact ⟨0, by omega, rfl, HPH.out, Fr.refl _ _⟩
      case round =>
        obtain ⟨p, hp, rfl, hph, hfr⟩ := hrel
        have HPH2 := Lib.hid hph
        have FR2 := Lib.hid hfr
        obtain ⟨C4, V, nx, h1, h2, h3, h4, h5, h6, h7, h8, h9, h10⟩ := hph
        by_cases hlt : p < S
        case neg =>
          obtain rfl : p = S := by omega
          have hTl : T < wr.heap.size := (Array.getElem?_eq_some_iff.1 h1).1
          have hkw : Keeps w wr := ((((Fr.refl _ w).alloc _).trans FR.out (fun i hi h => by have h : i = w.heap.size := h; omega)).keeps K3.out).trans FR2.out (fun i hi h => by
            have := HTT.out
            rcases h with h | h
            · omega
            · omega)
          have h3w : w.heap.size ≤ w3.heap.size := by have := HTT.out; omega
          have htab : Tab wr T w.heap.size wr.heap.size zs p := by
            refine ⟨by rw [HTT.out]; exact Nat.le_refl _, hTl, Nat.le_refl _, by rw [cell_of_row _ _ _ _ _ _ h1, h3], fun s hs => ?_, fun q hq => ?_⟩
            · have hs64 : s < 64 := by rw [← HK.out] at hs; omega
              obtain ⟨g1, g2⟩ := h6 s hs64
              rw [← HPP.out]
              obtain ⟨a, c, hv⟩ := g2.form
              rw [hv] at g1 g2
              exact ⟨a, c, by rw [cell_of_row _ _ _ _ _ _ h1, g1], g2.ints, fun x hx => by
                have := g2.lt x.block (by rw [hx]; rfl)
                omega⟩
            · rw [← HPP.out]
              obtain ⟨g1, g2⟩ := h5 q hq
              exact ⟨by rw [cell_of_row _ _ _ _ _ _ h1, h4 q hq], by rw [cell_of_row _ _ _ _ _ _ h1, g1], by rw [cell_of_row _ _ _ _ _ _ h1, g2]⟩
          have HTB := Lib.hid htab
          have HKW := Lib.hid hkw
          clear h1 h2 h3 h4 h5 h6 h7 h8 h9 h10 htab hkw hfr
          go_wp2_with fail
          go_ret
          go_light
          exact ⟨_, rfl, HTB.out, HKW.out⟩
        case pos =>
          obtain ⟨j, hjk, hj, hx1, hx2, hx3⟩ := HSB.out p hlt
          rw [← HK.out] at hjk
          have c0 : wr.cell? ⟨T, p * 3, none⟩ = some (.int .i64 (j : Int)) := by rw [cell_of_row _ _ _ _ _ _ h1, h4 p hlt, hj]
          have c1 : wr.cell? ⟨T, p * 3 + 1, none⟩ = some (C4[p * 3 + 1]'(by omega)) := by rw [cell_of_row _ _ _ _ _ _ h1, Array.getElem?_eq_getElem]
          have c2 : wr.cell? ⟨T, p * 3 + 2, none⟩ = some (C4[p * 3 + 2]'(by omega)) := by rw [cell_of_row _ _ _ _ _ _ h1, Array.getElem?_eq_getElem]
          have cS : wr.cell? ⟨T, 1600, none⟩ = some (.int .i64 (S : Int)) := by rw [cell_of_row _ _ _ _ _ _ h1, h3]
          have fT : ∀ i, wr.frozen? ⟨T, i, none⟩ = false := fun i => frozen_no h1 i
          obtain ⟨cn, fn⟩ := h8.at (i := j) (by omega)
          rw [h10 j hjk] at cn
          obtain ⟨x, hx⟩ : ∃ x, x = xP zs P p := ⟨_, rfl⟩
          rw [← hx] at hx1 hx2 hx3
          rw [← hx3] at cn
          have hzz := sum_ge HNN.out (i := j)
          have hzs := share_size HM.out
          rw [← HS.out] at hzs
          have hz0 := HNN.out _ (getD_mem (zs := zs) (k := j) (by rw [← HK.out]; exact hjk))
          have hxb : 1 ≤ x ∧ x < 1024 ∧ x < 2 * (S : Int) := by omega
          have hj64 : (j : Int) < 64 := by omega
          have hjk' : (j : Int) < (k : Int) := by omega
          have hp512 : (p : Int) < 512 := by omega
          have hne : T ≠ nb := by omega
          obtain ⟨g1, g2, g3, g4⟩ := HSH.out x hxb.1 hxb.2.2
          obtain ⟨bq, hbq⟩ : ∃ bq, bq = shlN 10 x (S : Int) := ⟨_, rfl⟩
          rw [← hbq] at g1 g2 g3 g4
          rw [Int.toNat_natCast] at g3
          have hLN : Hid (∀ w : World, Calls Try.prog 47 #[.int .u64 x] w fun e w' => e = .returned (.int .i64 ((lg : Int) + 1 - (bq : Int))) ∧ w' = w) := fun w => by
            have := bitsLen x w (by omega) (by omega)
            rw [show (Lib.bitLen x.toNat : Int) = (lg : Int) + 1 - (bq : Int) by omega] at this
            exact this
          have HH : Hid (wr.heap[T]? = some (.cells C4 55 (0, 0))) := h1
          have H8 := Lib.hid h8
          have H7 := Lib.hid h7
          have H6 := Lib.hid h6
          have H5 := Lib.hid h5
          have H4 := Lib.hid h4
          have H3 := Lib.hid h3
          have H10 := Lib.hid h10
          have H9 := Lib.hid h9
          have HX := Lib.hid hx
          have HX3 := Lib.hid hx3
          have HJ := Lib.hid hj
          have HBQ := Lib.hid hbq
          clear h1 h3 h4 h5 h6 h7 h8 h9 h10 hx hx1 hx2 hx3 hzz hzs hz0 hbq hj hfr
          have hbb : (lg : Int) - ((lg : Int) + 1 - (bq : Int)) + 1 = (bq : Int) := by omega
          go_wp2_with fail
          refine (hLN.out _).mono ?_
          rintro e5 w5 ⟨rfl, hw5⟩
          rw [hw5]
          clear hw5
          go_wp2_with fail
          go_region
          go_wp2_with fail
          have hbase : wrap64 (wrap64 (x * 2 ^ bq) - (S : Int)) = x * 2 ^ bq - (S : Int) := by
            have h2p : (0 : Int) < 2 ^ bq := Int.pow_pos (by decide)
            obtain ⟨pr, hpr⟩ : ∃ pr, pr = x * 2 ^ bq := ⟨_, rfl⟩
            rw [← hpr] at g1 g2 ⊢
            have hw : wrap64 pr = pr := by unfold wrap64; omega
            rw [hw]
            unfold wrap64
            omega
          rw [hbase]
          obtain ⟨base, hbs⟩ : ∃ base, base = x * 2 ^ bq - (S : Int) := ⟨_, rfl⟩
          rw [← hbs]
          obtain ⟨w6, hw6⟩ : ∃ w6, w6 = (((wr.setCell ⟨nb, j, none⟩ (.int .i64 (x + 1))).setCell ⟨T, p * 3 + 1, none⟩ (.int .i64 (bq : Int))).setCell ⟨T, p * 3 + 2, none⟩ (.int .i64 base)).drew := ⟨_, rfl⟩
          rw [← hw6]
          have hjN : j < 64 := by omega
          have f6 : Fr (fun i => i = T ∨ i = nb) wr w6 := by
            rw [hw6]
            exact (((((Fr.refl (fun i => i = T ∨ i = nb) wr).setAt (b := nb) (.inr rfl) j _).setAt (b := T) (.inl rfl) (p * 3 + 1) _).setAt (b := T) (.inl rfl) (p * 3 + 2) _)).drew
          have hT6 : w6.heap[T]? = some (.cells ((C4.setIfInBounds (p * 3 + 1) (.int .i64 (bq : Int))).setIfInBounds (p * 3 + 2) (.int .i64 base)) 55 (0, 0)) := by
            rw [hw6]
            have g1 : (wr.setCell ⟨nb, j, none⟩ (.int .i64 (x + 1))).heap[T]? = some (.cells C4 55 (0, 0)) := ((Fr.refl (fun i => i = nb) wr).setAt (b := nb) rfl j _).heap hne HH.out
            exact heap_drew (heap_set (heap_set g1 _ _) _ _)
          have ownj := (H6.out j hjN).2.fr f6 (fun b hb h => by have := ((H6.out j hjN).2.lt b hb).1; omega)
          have cVj : w6.cell? ⟨T, 1536 + j, none⟩ = some (V j) := by
            rw [cell_of_row _ _ _ _ _ _ hT6, Array.getElem?_setIfInBounds_ne (by omega), Array.getElem?_setIfInBounds_ne (by omega)]
            exact (H6.out j hjN).1
          have c06 : w6.cell? ⟨T, p * 3, none⟩ = some (.int .i64 (j : Int)) := by
            rw [cell_of_row _ _ _ _ _ _ hT6, Array.getElem?_setIfInBounds_ne (by omega), Array.getElem?_setIfInBounds_ne (by omega), H4.out p hlt, HJ.out]
          have fT6 := frozen_no hT6 (1536 + j)
          have hTl6 : T < w6.heap.size := (Array.getElem?_eq_some_iff.1 hT6).1
          obtain ⟨L, hL⟩ : ∃ L, L = (posP P (j : Int) p).length := ⟨_, rfl⟩
          have hLp : L ≤ 512 := by
            have := posP_le P (j : Int) p
            omega
          obtain ⟨va6, vc6, hvj⟩ := ownj.form
          rw [← hL] at hvj
          rw [hvj] at cVj ownj
          have OJ := Lib.hid ownj
          have HVT : Hid ((Value.slice va6 L vc6).ownBlock ≠ some T) := fun h => by have := (ownj.lt T h).1; omega
          have HVJ := Lib.hid hvj
          have HLL := Lib.hid hL
          have HW6 := Lib.hid hw6
          have HBS := Lib.hid hbs
          have hpw : (Lit.int .i64 (p : Int)).wf = true := by simp [Lit.wf, IntKind.min, IntKind.max, IntKind.signed, IntKind.bits]; omega
          have HPW := Lib.hid hpw
          have hz6 : w3.heap.size ≤ w6.heap.size := by have := FR2.out.size; have := f6.size; omega
          have HADR : Hid ((⟨T, 1536 + j, none⟩ : Addr) ≠ ⟨T, p * 3, none⟩) := fun h => by injection h with _ h2; omega
          clear hbase ownj hvj hL hw6 hbs hpw c0 c1 c2 cS fT cn fn g1 g2 g3 g4 hT6 hbb hLN f6
          go_region_law ((refine step_int (w := w6.drew) rfl _ _ (by rfl) elemI (.slice va6 L vc6) (by rfl) (by rfl) (OJ.out.keeps (Fr.refl _ _).drew) HPW.out (by rw [← HLL.out]; omega) hz6 ?_; intro v7 w7 hown7 hfr7 hat7; have cq7 := hfr7.cell (p := ⟨T, p * 3, none⟩) (fun h => HVT.out h) c06; have cp7 := hfr7.cell (p := ⟨T, 1536 + j, none⟩) (fun h => HVT.out h) cVj; have fp7 := (hfr7.frozen (p := ⟨T, 1536 + j, none⟩) (fun h => HVT.out h) hTl6).trans fT6; obtain ⟨a7, c7, hv7⟩ := hown7.form; subst hv7; have H7o := Lib.hid hown7; have F7 := Lib.hid hfr7; have A7 := Lib.hid hat7; clear hown7 hfr7 hat7))
          all_goals
            go_wp2_with fail
            go_roundw
            all_goals go_light
            case rel =>
              obtain ⟨hA, hB⟩ := ph2_next (w3 := w3) (V := V) HH.out h2 H3.out H4.out H5.out H6.out H7.out H8.out H9.out H10.out hT3 hnl hne hlt hS5.2 HJ.out hjk hjN HX.out HX3.out HBQ.out HBS.out ⟨hxb.1, hxb.2.1⟩ FR2.out HW6.out H7o.out (by rw [HVJ.out]; exact Fr.trans (S := fun i => (Value.slice va6 L vc6).ownBlock = some i) ((Fr.refl _ _).drew) F7.out (fun _ _ h => h)) (by rw [HVJ.out]; exact A7.out)
              rw [List.length_append, List.length_singleton] at hA hB
              exact ⟨p + 1, by omega, by go_num, hA, hB⟩
            case measure => simp [intOf]; omega
end Go.Proofs.Ytjdpijjoblfoaaa
