/- The writer of bits: what its methods compute, as rows of bits. -/
import Derived.Test.YtbbljpkboojjhaaRows
import Derived.Test.YtbbljpkboojjhaaHeap
import Derived.Test.YtbbljpkboojjhaaMath
import Derived.Test.YtbbljpkboojjhaaOwn
import Derived.Test.YtbbljpkboojjhaaElems
import Derived.Deep.RegionHeld3
import Derived.Deep.AppendLies
import Derived.Deep.DrawnRows
import Derived.Deep.LoopGhost
import Derived.Deep.RegionLaw
import Derived.Deep.RegionWith
import Derived.Deep.QuietTactic
import Derived.BigQuiet
import Derived.Laws.AppendOwnNone
namespace Go.Proofs.Ytbbljpkboojjhaa
open Go.RowKit


/-- A writer at block b holds the row rs; its bytes lie in block g, if in any. -/
def Wr (w : World) (b : Nat) (g : Option Nat) (rs : List Int) : Prop :=
  Bin rs ∧ g ≠ some b ∧ ∃ v E, v.ownBlock = g ∧
    w.heap[b]? = some (.cells #[v, .int .u64 (val (rs.drop (8 * (rs.length / 8)))), .int .i64 (rs.length % 8 : Nat)] E (0, 0)) ∧
    Own .u8 5 0 w v (pack (rs.take (8 * (rs.length / 8))))

theorem Wr.fr {S : Nat → Prop} {w w' : World} {b : Nat} {g : Option Nat} {rs : List Int} (h : Wr w b g rs) (f : Fr S w w') (hb : ¬ S b) (hg : ∀ k, g = some k → ¬ S k) : Wr w' b g rs := by
  obtain ⟨h1, h2, v, E, rfl, h4, h5⟩ := h
  exact ⟨h1, h2, v, E, rfl, f.heap hb h4, h5.fr f hg⟩
theorem Wr.keeps {w w' : World} {b : Nat} {g : Option Nat} {rs : List Int} (h : Wr w b g rs) (f : Keeps w w') : Wr w' b g rs := h.fr f (fun h => h) (fun _ _ h => h)
theorem Wr.lt {w : World} {b : Nat} {g : Option Nat} {rs : List Int} (h : Wr w b g rs) : b < w.heap.size ∧ ∀ k, g = some k → k < w.heap.size := by
  obtain ⟨h1, h2, v, E, rfl, h4, h5⟩ := h
  exact ⟨(Array.getElem?_eq_some_iff.1 h4).1, fun k hk => (h5.lt k hk).2⟩

theorem newWriter (w : World) :
    Calls Try.prog 25 #[] w fun e w' => e = .returned (.pointer (some ⟨w.heap.size, 0, none⟩)) ∧ Wr w' w.heap.size none [] ∧ Keeps w w' := by
  go_enter Try.func25, Try.ntmps25
  go_wp2
  go_ret
  exact ⟨rfl, ⟨Bin.nil, by simp, .slice none 0 0, _, rfl, heap_alloc_new w _, Own.nil _ _ _ _⟩, (Fr.refl _ _).alloc _⟩

theorem pack_parts {rs : List Int} (h : 0 < rs.length % 8) : pack (rs.take (8 * (rs.length / 8))) ++ [val (rs.drop (8 * (rs.length / 8)))] = pack rs := by
  have e := pack_append (a := rs.take (8 * (rs.length / 8))) (b := rs.drop (8 * (rs.length / 8))) (n := rs.length / 8) (by rw [List.length_take]; omega)
  rw [List.take_append_drop] at e
  rw [e]
  congr 1
  rw [pack_small (by rw [List.length_drop]; omega) (by rw [List.length_drop]; omega)]
theorem pack_whole {rs : List Int} (h : rs.length % 8 = 0) : pack (rs.take (8 * (rs.length / 8))) = pack rs := by
  rw [List.take_of_length_le (by omega)]

set_option maxHeartbeats 400000 in
theorem writerBytes {w : World} {b : Nat} {g : Option Nat} {rs : List Int} (h : Wr w b g rs) (hl : rs.length ≤ 1000000000000) :
    Calls Try.prog 27 #[.pointer (some ⟨b, 0, none⟩)] w fun e w' => ∃ v, e = .returned v ∧ Own .u8 5 w.heap.size w' v (pack rs) ∧ Keeps w w' := by
  obtain ⟨hb, hg, v, E, hv, hheap, hown⟩ := h
  have c0 := cell_of_row w b 0 _ E (0, 0) hheap
  have c1 := cell_of_row w b 1 _ E (0, 0) hheap
  have c2 := cell_of_row w b 2 _ E (0, 0) hheap
  simp at c0 c1 c2
  have hp : (pack (rs.take (8 * (rs.length / 8)))).length = rs.length / 8 := by rw [pack_length, List.length_take]; omega
  obtain ⟨y, hy⟩ : ∃ y, y = val (rs.drop (8 * (rs.length / 8))) := ⟨_, rfl⟩
  have hyb := byt_val (hb.tail (8 * (rs.length / 8))) (by rw [List.length_drop]; omega)
  obtain ⟨r, hr⟩ : ∃ r, r = rs.length % 8 := ⟨_, rfl⟩
  have hc2 : w.cell? ⟨b, 2, none⟩ = some (.int .i64 r) := by rw [hr]; simpa using c2
  have hpw := @pack_parts rs
  have hpn := @pack_whole rs
  rw [← hr] at hpw hpn
  rw [← hy] at c1 hyb hpw
  obtain ⟨hy0, hy1⟩ := hyb
  have HPW := Lib.hid hpw; have HPN := Lib.hid hpn
  obtain ⟨zs, hzs⟩ : ∃ zs, zs = pack (rs.take (8 * (rs.length / 8))) := ⟨_, rfl⟩
  rw [← hzs] at hp hown HPW HPN
  have hz : zs.length ≤ 1000000000000 := by omega
  clear c2 hheap hpw hpn hg hp hzs hr hy
  have hin := hown.ints
  have hwb : (Lit.int .u8 y).wf = true := WalkArith.wf_u8 (by omega)
  by_cases hr0 : 0 < r
  · go_enter Try.func27, Try.ntmps27
    go_wp2_with (first
      | (at_builtin; refine wpList_ints rfl (.const (.slice none 0 0)) (.tmp 7) rfl elemB (.slice none 0 0) rfl rfl (Own.nil .u8 5 w.heap.size _) hin (by simp; omega) (by omega) ?_; intro v1 w1 hown1 hfr1 hat1; have d1 := hfr1.cell (by simp [Value.ownBlock]) c1; have d2 := hfr1.cell (by simp [Value.ownBlock]) hc2; have hsz := hfr1.size; simp only [List.nil_append] at hown1)
      | (at_builtin; refine wpList_int rfl (.tmp 14) (.tmp 20) rfl elemB v1 rfl rfl hown1 hwb (by omega) (by omega) ?_; intro v2 w2 hown2 hfr2 hat2))
    go_ret
    go_light
    rw [HPW.out hr0] at hown2
    exact ⟨v2, rfl, hown2, hfr1.trans hfr2 (fun i hi h => by
      have := hown1.lt i h
      omega) |>.mono fun i hi h => by simp [Value.ownBlock] at h⟩
  · go_enter Try.func27, Try.ntmps27
    go_wp2_with (first
      | (at_builtin; refine wpList_ints rfl (.const (.slice none 0 0)) (.tmp 7) rfl elemB (.slice none 0 0) rfl rfl (Own.nil .u8 5 w.heap.size _) hin (by simp; omega) (by omega) ?_; intro v1 w1 hown1 hfr1 hat1; have d1 := hfr1.cell (by simp [Value.ownBlock]) c1; have d2 := hfr1.cell (by simp [Value.ownBlock]) hc2; have hsz := hfr1.size; simp only [List.nil_append] at hown1))
    go_ret
    go_light
    rw [HPN.out (by omega)] at hown1
    exact ⟨v1, rfl, hown1, hfr1.mono fun i hi h => by simp [Value.ownBlock] at h⟩

/-- the writer's state between two bytes: q bytes are out, m bits are left -/
def PutRel (w : World) (b : Nat) (g : Option Nat) (E : TypeId) (rs' : List Int) (m : Nat) (wr : World) : Prop :=
  ∃ (q : Nat) (v : Value), Hid (8 * q + m = rs'.length) ∧ m ≤ 39 ∧
      wr.heap[b]? = some (.cells #[v, .int .u64 (val (rs'.drop (8 * q))), .int .i64 m] E (0, 0)) ∧
      Own .u8 5 0 wr v (pack (rs'.take (8 * q))) ∧ v.ownBlock ≠ some b ∧ Fr (fun k => k = b ∨ g = some k) w wr ∧ (v.ownBlock = g ∨ ∃ k, v.ownBlock = some k ∧ w.heap.size ≤ k)

theorem put_start {w : World} {b : Nat} {v : Value} {E : TypeId} {rs : List Int} {n r : Nat} {x A s : Int} (hbb : v.ownBlock ≠ some b) (hn : n ≤ 32) (hx0 : 0 ≤ x) (hx : x < 2 ^ n)
    (HH : w.heap[b]? = some (.cells #[v, .int .u64 (val (rs.drop (8 * (rs.length / 8)))), .int .i64 (rs.length % 8 : Nat)] E (0, 0)))
    (hown : Own .u8 5 0 w v (pack (rs.take (8 * (rs.length / 8))))) (HR : r = rs.length % 8) (HA : A = val (rs.drop (8 * (rs.length / 8)))) (HS : s = 2 ^ r) :
    PutRel w b v.ownBlock E (rs ++ bitsOf n x) (r + n) (((w.setCell ⟨b, 1, none⟩ (.int .u64 (A + x * s))).setCell ⟨b, 2, none⟩ (.int .i64 (r + n))).drew) := by
  have hfr : Fr (fun k => k = b) w (((w.setCell ⟨b, 1, none⟩ (.int .u64 (A + x * s))).setCell ⟨b, 2, none⟩ (.int .i64 (r + n))).drew) :=
    (((Fr.refl (fun k => k = b) w).setCell (p := ⟨b, 1, none⟩) (fun _ => rfl) _).setCell (p := ⟨b, 2, none⟩) (fun _ => rfl) _).drew
  refine ⟨rs.length / 8, v, ?_, by omega, ?_, ?_, hbb, hfr.mono (fun i _ h => .inl h), .inl rfl⟩
  · show _ = _
    rw [List.length_append, bitsOf_length]; omega
  · rw [heap_drew (heap_set (heap_set HH 1 _) 2 _)]
    have e : val ((rs ++ bitsOf n x).drop (8 * (rs.length / 8))) = A + x * s := by
      rw [List.drop_append_of_le_length (by omega), val_append, val_bitsOf, Int.emod_eq_of_lt hx0 hx, List.length_drop, HA, HS, HR, Int.mul_comm x]
      congr 4
      omega
    rw [e]
    simp
  · rw [List.take_append_of_le_length (by omega)]
    exact hown.fr hfr (fun k hk h => hbb (by rw [hk, h]))

theorem put_round {w wr w2 : World} {b : Nat} {g : Option Nat} {E : TypeId} {rs' : List Int} {q m : Nat} {v : Value} {a2 : Option Addr} {cap2 : Nat} {y Y : Int} (h8 : 8 ≤ m) (HM : Hid (8 * q + m = rs'.length)) (hm : m ≤ 39)
    (hvb : v.ownBlock ≠ some b) (hfr : Fr (fun k => k = b ∨ g = some k) w wr) (hat : v.ownBlock = g ∨ ∃ k, v.ownBlock = some k ∧ w.heap.size ≤ k)
    (HY2 : Hid (Y / 256 = val ((rs'.drop (8 * q)).drop 8))) (Hye : Hid (y = val ((rs'.drop (8 * q)).take 8)))
    (hfr2 : Fr (fun j => v.ownBlock = some j) wr.drew w2) (hheap2 : Hid (w2.heap[b]? = some (.cells #[v, .int .u64 (val (rs'.drop (8 * q))), .int .i64 m] E (0, 0)))) (hlt : b < wr.heap.size)
    (hown2 : Own .u8 5 0 w2 (.slice a2 (pack (rs'.take (8 * q)) ++ [y]).length cap2) (pack (rs'.take (8 * q)) ++ [y]))
    (hat2 : (Value.slice a2 (pack (rs'.take (8 * q)) ++ [y]).length cap2).ownBlock = v.ownBlock ∨ (Value.slice a2 (pack (rs'.take (8 * q)) ++ [y]).length cap2).ownBlock = some (wr.drew.heap.size + 1)) :
    PutRel w b g E rs' (m - 8) (((w2.setCell ⟨b, 0, none⟩ (.slice a2 ((pack (rs'.take (8 * q))).length + 1) cap2)).setCell ⟨b, 1, none⟩ (.int .u64 (Y / 256))).setCell ⟨b, 2, none⟩ (.int .i64 ((m : Int) - 8))) := by
  have hl := HM.out
  rw [List.length_append, List.length_singleton] at hown2 hat2
  obtain ⟨V, hV⟩ : ∃ V, V = Value.slice a2 ((pack (rs'.take (8 * q))).length + 1) cap2 := ⟨_, rfl⟩
  rw [← hV] at hown2 hat2 ⊢
  have hVb : V.ownBlock ≠ some b := by
    rcases hat2 with h | h
    · rw [h]; exact hvb
    · rw [h]; intro h'; simp at h'; omega
  have hfr3 : Fr (fun k => k = b) w2 (((w2.setCell ⟨b, 0, none⟩ V).setCell ⟨b, 1, none⟩ (.int .u64 (Y / 256))).setCell ⟨b, 2, none⟩ (.int .i64 ((m : Int) - 8))) :=
    (((Fr.refl (fun k => k = b) w2).setCell (p := ⟨b, 0, none⟩) (fun _ => rfl) _).setCell (p := ⟨b, 1, none⟩) (fun _ => rfl) _).setCell (p := ⟨b, 2, none⟩) (fun _ => rfl) _
  have ed : rs'.drop (8 * (q + 1)) = (rs'.drop (8 * q)).drop 8 := by rw [List.drop_drop]; congr 1
  have et : pack (rs'.take (8 * (q + 1))) = pack (rs'.take (8 * q)) ++ [y] := by
    have e1 : rs'.take (8 * (q + 1)) = rs'.take (8 * q) ++ (rs'.drop (8 * q)).take 8 := by rw [show 8 * (q + 1) = 8 * q + 8 from by omega, List.take_add]
    rw [e1, pack_append (n := q) (by rw [List.length_take]; omega)]
    congr 1
    rw [pack_small (by rw [List.length_take, List.length_drop]; omega) (by rw [List.length_take]; omega), Hye.out]
  refine ⟨q + 1, V, ?_, by omega, ?_, ?_, hVb, ?_, ?_⟩
  · show _ = _
    omega
  · rw [heap_set (heap_set (heap_set hheap2.out 0 _) 1 _) 2 _, ed, ← HY2.out]
    simp
    omega
  · rw [et]
    exact hown2.fr hfr3 (fun k hk h => hVb (by rw [hk, h]))
  · refine (hfr.trans ((Fr.refl (fun j => v.ownBlock = some j) _).drew.trans hfr2 (fun _ _ h => h)) ?_).trans hfr3 (fun i _ h => .inl h)
    intro i hi h
    rcases hat with h' | ⟨k, h', hk⟩
    · exact .inr (by rw [← h']; exact h)
    · rw [h'] at h; simp at h; omega
  · rcases hat2 with h | h
    · rw [h]; exact hat
    · exact .inr ⟨_, h, by have := hfr.size; simp; omega⟩

theorem put_end {w wr : World} {b : Nat} {g : Option Nat} {E : TypeId} {rs' : List Int} {m : Nat} (h : PutRel w b g E rs' m wr) (hm : m < 8) (hbin : Bin rs') :
    ∃ g', Wr wr b g' rs' ∧ Fr (fun k => k = b ∨ g = some k) w wr ∧ (g' = g ∨ ∃ k, g' = some k ∧ w.heap.size ≤ k) := by
  obtain ⟨q, v, HM, _, hheap, hown, hvb, hfr, hat⟩ := h
  have hl := HM.out
  refine ⟨v.ownBlock, ⟨hbin, hvb, v, E, rfl, ?_, ?_⟩, hfr, hat⟩
  · rw [hheap, show rs'.length / 8 = q from by omega, show rs'.length % 8 = m from by omega]
  · rw [show rs'.length / 8 = q from by omega]; exact hown

set_option maxHeartbeats 1000000 in
theorem writerPut {w : World} {b : Nat} {g : Option Nat} {rs : List Int} {n : Nat} {x : Int} (h : Wr w b g rs) (hl : rs.length ≤ 999999999900) (hn : n ≤ 32) (hx0 : 0 ≤ x) (hx : x < 2 ^ n) :
    Calls Try.prog 26 #[.pointer (some ⟨b, 0, none⟩), .int .i64 n, .int .i64 x] w fun e w' =>
      ∃ g', e = .returned (.int .i64 0) ∧ Wr w' b g' (rs ++ bitsOf n x) ∧ Fr (fun k => k = b ∨ g = some k) w w' ∧ (g' = g ∨ ∃ k, g' = some k ∧ w.heap.size ≤ k) := by
  obtain ⟨hb, hg, v, E, hv, hheap, hown⟩ := h
  have c1 := cell_of_row w b 1 _ E (0, 0) hheap
  have c2 := cell_of_row w b 2 _ E (0, 0) hheap
  have f1 := frozen_no hheap 1
  have f2 := frozen_no hheap 2
  obtain ⟨r, hr⟩ : ∃ r, r = rs.length % 8 := ⟨_, rfl⟩
  rw [← hr] at c2
  simp at c1 c2
  obtain ⟨p, hp⟩ : ∃ p : Int, p = 2 ^ n := ⟨_, rfl⟩
  have hp1 : p ≤ 4294967296 := by
    have h32 : ∀ m : Nat, m ≤ 32 → (2 : Int) ^ m ≤ 4294967296 := by decide
    rw [hp]; exact h32 n hn
  have hp0 : 0 < p := by rw [hp]; exact Int.pow_pos (by decide)
  rw [← hp] at hx
  obtain ⟨s, hs⟩ : ∃ s : Int, s = 2 ^ r := ⟨_, rfl⟩
  have hs1 : s ≤ 128 := by
    have h7 : ∀ m : Nat, m ≤ 7 → (2 : Int) ^ m ≤ 128 := by decide
    rw [hs]; exact h7 r (by omega)
  have hs0 : 0 < s := by rw [hs]; exact Int.pow_pos (by decide)
  have hA0 := val_nonneg (hb.tail (8 * (rs.length / 8)))
  have hA1 := val_lt (hb.tail (8 * (rs.length / 8)))
  rw [List.length_drop, show rs.length - 8 * (rs.length / 8) = r from by omega, ← hs] at hA1
  obtain ⟨A, hA⟩ : ∃ A, A = val (rs.drop (8 * (rs.length / 8))) := ⟨_, rfl⟩
  rw [← hA] at hA0 hA1 c1
  have hm0 : 0 ≤ x * s := Int.mul_nonneg hx0 (by omega)
  have hm1 : x * s < 549755813888 := by
    have h1 : x * s ≤ x * 128 := Int.mul_le_mul_of_nonneg_left hs1 hx0
    omega
  have w1 : IntKind.u64.wrap p = p := wraps_u64 _ (by omega) (by omega)
  have w2 : IntKind.u64.wrap x = x := wraps_u64 _ (by omega) (by omega)
  have w3 : IntKind.u64.wrap (x * s) = x * s := wraps_u64 _ (by omega) (by omega)
  have hor : bits .or .u64 A (x * s) = A + x * s := or_u64 r _ _ hA0 (by rw [← hs]; exact hA1) (by omega) hm0 (by rw [← hs, Int.mul_emod_left]) (by omega)
  have hp' := hp.symm
  have hs' := hs.symm
  have HH := Lib.hid hheap
  have HR := Lib.hid hr
  have HA := Lib.hid hA
  have HP := Lib.hid hp
  have HS := Lib.hid hs
  have HX0 := Lib.hid hx0
  have HX := Lib.hid hx
  have hr7 : r < 8 := by omega
  clear hheap hr hA hp hs
  go_enter Try.func26, Try.ntmps26
  go_wp2_with fail
  go_region
  go_wp2_with fail
  go_loopg [] (r + n) (fun m wr => PutRel w b g E (rs ++ bitsOf n x) m wr)
  case atStart =>
    go_light
    subst hv
    exact put_start hg hn (HX0.out) (by rw [HP.out] at HX; exact HX.out) HH.out hown HR.out HA.out HS.out
  case round =>
    by_cases h8 : 8 ≤ gk
    case neg =>
      have R := put_end hrel (by omega) (hb.append (bitsOf_bin _ _))
      obtain ⟨q, v, HM, hm39, hheap, hown, hvb, hfr, hat⟩ := hrel
      have d2 := cell_of_row wr b 2 _ E (0, 0) hheap
      have RR := Lib.hid R
      simp at d2
      clear R hheap hown hvb hfr hat hm39
      go_wp2
      go_ret
      go_light
      obtain ⟨g', R1, R2, R3⟩ := RR.out
      exact ⟨g', rfl, R1, R2, R3⟩
    obtain ⟨q, v, HM, hm39, hheap, hown, hvb, hfr, hat⟩ := hrel
    have d0 := cell_of_row wr b 0 _ E (0, 0) hheap
    have d1 := cell_of_row wr b 1 _ E (0, 0) hheap
    have d2 := cell_of_row wr b 2 _ E (0, 0) hheap
    have f0 := frozen_no hheap 0
    have f1' := frozen_no hheap 1
    have f2' := frozen_no hheap 2
    simp at d0 d1 d2
    have hbin : Bin (rs ++ bitsOf n x) := hb.append (bitsOf_bin _ _)
    have hlen : (rs ++ bitsOf n x).length ≤ 1000000000000 := by rw [List.length_append, bitsOf_length]; omega
    obtain ⟨rs', hrs'⟩ : ∃ rs', rs' = rs ++ bitsOf n x := ⟨_, rfl⟩
    rw [← hrs'] at hbin HM hheap hown d1
    rw [← hrs'] at hlen
    have hY0 := val_nonneg (hbin.tail (8 * q))
    have hY1 := val_low (hbin.tail (8 * q)) (by rw [List.length_drop]; have := HM.out; omega)
    have hY2 := val_high (hbin.tail (8 * q)) (by rw [List.length_drop]; have := HM.out; omega)
    have hy := byt_val ((hbin.tail (8 * q)).init 8) (by rw [List.length_take]; omega)
    obtain ⟨y, hye⟩ : ∃ y, y = val ((rs'.drop (8 * q)).take 8) := ⟨_, rfl⟩
    obtain ⟨Y, hYe⟩ : ∃ Y, Y = val (rs'.drop (8 * q)) := ⟨_, rfl⟩
    rw [← hye] at hy hY1
    rw [← hYe] at hY0 hY1 hY2 d1
    have hc8 : IntKind.u8.wrap Y = y := by rw [IntKind.wrap_u8, hY1]
    have hwb : (Lit.int .u8 y).wf = true := WalkArith.wf_u8 (by omega)
    have hroom : (pack (rs'.take (8 * q))).length ≤ 1000000000000 := by rw [pack_length, List.length_take]; omega
    have HY1 := Lib.hid hY1
    have HY2 := Lib.hid hY2
    have HYe := Lib.hid hYe
    have Hye := Lib.hid hye
    have HBIN := Lib.hid hbin
    have HRS := Lib.hid hrs'
    have HHE := Lib.hid hheap
    have hlt : b < wr.heap.size := World.block_lt_of_cell? wr _ d0
    clear hY1 hY2 hYe hye hlen hrs' hheap hp' hs' c1 c2 f1 f2 w1 w2 w3 hor hA0 hA1 hm0 hm1 hx0 hx hp0 hp1 hs0 hs1 hg hbin
    go_wp2_with fail
    go_region_law ((refine step_int (w := wr.drew) rfl _ _ (by rfl) elemB v (by rfl) (by rfl) (hown.keeps (Fr.refl _ _).drew) hwb (by omega) (by omega) ?_; intro v2 w2 hown2 hfr2 hat2; have e0 := hfr2.cell (p := ⟨b, 0, none⟩) hvb d0; have e1 := (hfr2.frozen (p := ⟨b, 0, none⟩) hvb hlt).trans f0; have e2 := hfr2.cell (p := ⟨b, 1, none⟩) hvb d1; have e3 := (hfr2.frozen (p := ⟨b, 1, none⟩) hvb hlt).trans f1'; have e4 := hfr2.cell (p := ⟨b, 2, none⟩) hvb d2; have e5 := (hfr2.frozen (p := ⟨b, 2, none⟩) hvb hlt).trans f2'; have hheap2 := Lib.hid (hfr2.heap hvb HHE.out); obtain ⟨a2, cap2, rfl⟩ := hown2.form))
    all_goals go_wp2_with fail
    all_goals (go_roundg (gk - 8))
    all_goals go_light
    all_goals (first | omega | (rw [← HRS.out]; exact put_round h8 HM hm39 hvb hfr hat HY2 Hye hfr2 hheap2 hlt hown2 hat2))

theorem writerPutOk {w : World} {b : Nat} {g : Option Nat} {rs : List Int} {n x : Int} (h : Wr w b g rs) (hl : rs.length ≤ 999999999900) (hn0 : 0 ≤ n) (hn : n ≤ 32) (hx0 : 0 ≤ x) (hx : x < 2 ^ n.toNat) :
    Calls Try.prog 26 #[.pointer (some ⟨b, 0, none⟩), .int .i64 n, .int .i64 x] w fun e w' =>
      ∃ g', e = .returned (.int .i64 0) ∧ Wr w' b g' (rs ++ bitsOf n.toNat x) ∧ Fr (fun k => k = b ∨ g = some k) w w' ∧ (g' = g ∨ ∃ k, g' = some k ∧ w.heap.size ≤ k) := by
  obtain ⟨m, rfl⟩ := Int.eq_ofNat_of_zero_le hn0
  exact writerPut h hl (by omega) hx0 (by simpa using hx)
end Go.Proofs.Ytbbljpkboojjhaa
