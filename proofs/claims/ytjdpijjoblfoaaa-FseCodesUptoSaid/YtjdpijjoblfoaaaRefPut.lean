/- The reference's Put and Pack: what they compute. -/
import Derived.Test.YtjdpijjoblfoaaaRefRow
import Derived.Test.YtjdpijjoblfoaaaPutS
namespace Go.Proofs.Ytjdpijjoblfoaaa
open Go.RowKit

set_option maxHeartbeats 1000000 in
theorem refPutNo {w : World} {v : Value} {n x : Int} (hn1 : n ≤ 9223372036854775807) (hx1 : x ≤ 9223372036854775807) (h : PutBad n x) :
    Calls Try.prog 35 #[v, .int .i64 n, .int .i64 x] w fun e w' => e = .returned (.tuple #[v, .int .i64 1]) ∧ w = w' := by
  by_cases h1 : n < 0
  · clear h
    go_enter Try.func35, Try.ntmps35
    go_wp2_with fail
    go_ret2
    exact ⟨rfl, rfl⟩
  by_cases h2 : 32 < n
  · clear h
    go_enter Try.func35, Try.ntmps35
    go_wp2_with fail
    go_ret2
    exact ⟨rfl, rfl⟩
  obtain ⟨m, rfl⟩ := Int.eq_ofNat_of_zero_le (show 0 ≤ n by omega)
  have hm : m ≤ 32 := by omega
  by_cases h3 : x < 0
  · clear h h1 h2
    go_enter Try.func35, Try.ntmps35
    go_wp2_with fail
    go_ret2
    exact ⟨rfl, rfl⟩
  have h4 : 2 ^ m ≤ x := by unfold PutBad at h; simp at h; omega
  obtain ⟨p, hp⟩ : ∃ p : Int, p = 2 ^ m := ⟨_, rfl⟩
  have hp1 : p ≤ 4294967296 := by rw [hp]; exact pow_le32 m hm
  have hp0 : 0 < p := by rw [hp]; exact pow_pos2 m
  rw [← hp] at h4
  have w1 : wrap64 p = p := IntWalk.wrap64_in _ (by omega)
  have hp' := hp.symm
  have h5 : 0 ≤ x := by omega
  clear h hp h1 h2 h3
  go_enter Try.func35, Try.ntmps35
  go_wp2_with fail
  go_ret2
  exact ⟨rfl, rfl⟩

set_option maxHeartbeats 1000000 in
theorem refPutOk {w : World} {v : Value} {rs : List Int} {n : Nat} {x : Int} (h : Ints .i64 w v rs) (hl : rs.length ≤ 1000000000000) (hn : n ≤ 32) (hx0 : 0 ≤ x) (hx : x < 2 ^ n) :
    Calls Try.prog 35 #[v, .int .i64 n, .int .i64 x] w fun e w' => ∃ v', e = .returned (.tuple #[v', .int .i64 0]) ∧ Own .i64 3 w.heap.size w' v' (rs ++ bitsOf n x) ∧ Keeps w w' := by
  obtain ⟨p, hp⟩ : ∃ p : Int, p = 2 ^ n := ⟨_, rfl⟩
  have hp1 : p ≤ 4294967296 := by rw [hp]; exact pow_le32 n hn
  have hp0 : 0 < p := by rw [hp]; exact pow_pos2 n
  rw [← hp] at hx
  have hw1 : wrap64 p = p := IntWalk.wrap64_in _ (by omega)
  have hp' := hp.symm
  clear hp
  go_enter Try.func35, Try.ntmps35
  go_wp2_with (at_builtin; refine wpList_ints rfl (.tmp 27) (.tmp 28) rfl elemI (.slice none 0 0) rfl rfl (Own.nil .i64 3 w.heap.size _) h (by simp; omega) (by omega) ?_; intro v1 w1 hown1 hfr1 hat1; simp only [List.nil_append] at hown1)
  have hk1 : Keeps w w1 := hfr1.mono fun i hi h => by simp [Value.ownBlock] at h
  clear hfr1 hat1 h hp' hw1
  go_loopw [2, 8, 9] (fun x' o i wr => ∃ (k : Nat) (y : Int), k ≤ n ∧ i = .int .i64 k ∧ x' = .int .i64 y ∧ 0 ≤ y ∧ y ≤ 4294967296 ∧ Hid (y = x / 2 ^ k) ∧ Own .i64 3 w.heap.size wr o (rs ++ bitsOf k x) ∧ Keeps w wr) (fun _ _ i _ => n - (intOf i).toNat)
  case atStart => exact ⟨0, x, by omega, rfl, rfl, hx0, by omega, by show x = x / 2 ^ 0; simp, by simpa [bitsOf] using hown1, hk1⟩
  case round =>
    obtain ⟨k, y, hk, rfl, rfl, hy0, hy1, HY, hown, hkeep⟩ := hrel
    have hsz := hkeep.size
    by_cases hlt : k < n
    case neg =>
      have hkn : k = n := by omega
      subst hkn
      go_wp2_with fail
      go_ret2
      exact ⟨_, rfl, hown, hkeep⟩
    have hroom : (rs ++ bitsOf k x).length ≤ 9000000000000 := by rw [List.length_append, bitsOf_length]; omega
    go_wp2_with (at_builtin; refine wpList_int rfl (.tmp 35) (.tmp 38) rfl elemI _ rfl rfl hown (wf_bit (by omega)) (by omega) (by omega) ?_; intro v2 w2 hown2 hfr2 hat2)
    go_roundw
    all_goals go_light
    case rel =>
      refine ⟨k + 1, y / 2, by omega, by go_num, rfl, by omega, by omega, ?_, ?_, Keeps.own hkeep hown (Nat.le_refl _) hfr2⟩
      · show y / 2 = x / 2 ^ (k + 1)
        rw [HY.out, Int.ediv_ediv_of_nonneg (by exact Int.le_of_lt (pow_pos2 k)), Int.pow_succ]
      · rw [bitsOf_succ, ← HY.out, ← List.append_assoc]
        exact hown2
    case measure => simp [intOf]; omega

theorem refPutAny {w : World} {v : Value} {rs : List Int} {n x : Int} (h : Ints .i64 w v rs) (hl : rs.length ≤ 1000000000000) (hn1 : n ≤ 9223372036854775807) (hx1 : x ≤ 9223372036854775807) :
    Calls Try.prog 35 #[v, .int .i64 n, .int .i64 x] w fun e w' => ∃ v', e = .returned (.tuple #[v', .int .i64 (putRow rs n x).2]) ∧ Ints .i64 w' v' (putRow rs n x).1 ∧ (v'.ownBlock = v.ownBlock ∨ ∀ k, v'.ownBlock = some k → w.heap.size ≤ k ∧ k < w'.heap.size) ∧ Keeps w w' := by
  by_cases hb : PutBad n x
  · rw [putRow_no hb]
    refine (refPutNo hn1 hx1 hb).mono ?_
    rintro e w' ⟨rfl, rfl⟩
    exact ⟨v, rfl, h, .inl rfl, Fr.refl _ _⟩
  · rw [putRow_ok hb]
    obtain ⟨h0, h1, h2, h3⟩ := not_putBad hb
    obtain ⟨m, rfl⟩ := Int.eq_ofNat_of_zero_le h0
    refine (refPutOk h hl (by omega) h2 (by simpa using h3)).mono ?_
    rintro e w' ⟨v', rfl, ho, hk⟩
    exact ⟨v', rfl, ho.ints, .inr ho.lt, hk⟩

set_option maxHeartbeats 1000000 in
theorem refPack {v : Value} {bs : List Int} {w : World} (h : Ints .i64 w v bs) (hbin : Bin bs) (hz : bs.length ≤ 1000000000000) :
    Calls Try.prog 36 #[v] w fun e w' => ∃ v', e = .returned v' ∧ Own .u8 5 w.heap.size w' v' (pack bs) ∧ Keeps w w' := by
  have HB := Lib.hid hbin
  obtain ⟨_, a, c, rfl, hza, hzc, _, hc⟩ := h
  unfold maxLen at hzc
  obtain ⟨L, hL⟩ : ∃ L, L = bs.length := ⟨_, rfl⟩
  rw [← hL] at hza hc hz ⊢
  have HL := Lib.hid hL
  clear hL hbin
  go_enter Try.func36, Try.ntmps36
  go_wp2_with fail
  go_loopw [3, 4] (fun o i wr => ∃ q : Nat, 8 * q ≤ L + 7 ∧ i = .int .i64 (8 * q : Nat) ∧ Own .u8 5 w.heap.size wr o (pack (bs.take (8 * q))) ∧ Keeps w wr) (fun _ i _ => L + 8 - (intOf i).toNat)
  case atStart => exact ⟨0, by omega, rfl, by simpa [pack_nil] using Own.nil _ _ _ _, Fr.refl _ _⟩
  case round =>
    obtain ⟨q, hq, rfl, hown, hkeep⟩ := hrel
    by_cases hlt : 8 * q < L
    case neg =>
      clear hc
      go_wp2_with fail
      go_ret
      go_light
      refine ⟨_, rfl, ?_, hkeep⟩
      rw [List.take_of_length_le (by have := HL.out; omega)] at hown
      exact hown
    have hsz := hkeep.size
    obtain ⟨I, hI⟩ : ∃ I, I = 8 * q := ⟨_, rfl⟩
    have HI := Lib.hid hI
    have hIL : I < L := by omega
    have hown' := hown
    rw [← hI] at hown' ⊢
    have HO := Lib.hid hown'
    have HK := Lib.hid hkeep
    clear hown hown' hI
    go_wp2_with fail
    go_loop [5, 6, 7] (fun x s i => ∃ (j : Nat) (V t : Int), j ≤ 8 ∧ I + j ≤ L ∧ i = .int .i64 (I + j : Nat) ∧ s = .int .i64 t ∧ x = .int .i64 V ∧ 0 < t ∧ t ≤ 256 ∧ 0 ≤ V ∧ V < t ∧ Hid (t = 2 ^ j) ∧ Hid (V = val ((bs.drop I).take j))) (fun _ _ i => I + 8 - (intOf i).toNat)
    case atStart => exact ⟨0, 0, 1, by omega, by omega, by go_num, rfl, rfl, by omega, by omega, by omega, by omega, rfl, rfl⟩
    case round =>
      obtain ⟨j, V, t, hj, hjL, rfl, rfl, rfl, ht0, ht1, hV0, hV1, HT, HV⟩ := hrel
      by_cases hend : j < 8 ∧ I + j < L
      case neg =>
        have hw8 : IntKind.u8.wrap V = V := wraps_u8 _ (by omega) (by omega)
        have hplen : (pack (bs.take I)).length ≤ 200000000000 := by rw [pack_length, List.length_take]; omega
        have hVe : V = val ((bs.drop I).take 8) := by
          rw [HV.out]
          by_cases h8 : j = 8
          · rw [h8]
          · have e : L = I + j := by omega
            rw [List.take_of_length_le (by rw [List.length_drop, ← HL.out]; omega), List.take_of_length_le (by rw [List.length_drop, ← HL.out]; omega)]
        have HVE := Lib.hid hVe
        have HEND := Lib.hid hend
        clear hVe hend hc
        by_cases h8 : j = 8
        all_goals
          have hj8 : 8 ≤ j ∨ L ≤ I + j := by have := HEND.out; omega
          go_wp2_with (at_builtin; refine wpList_int rfl (.tmp 37) (.tmp 40) rfl elemB _ rfl rfl HO.out (WalkArith.wf_u8 (by omega)) (by omega) (by omega) ?_; intro v2 w2 hown2 hfr2 hat2)
          go_roundw
          all_goals go_light
          case rel =>
            refine ⟨q + 1, by have := HI.out; omega, by have := HI.out; go_num, ?_, Keeps.own HK.out HO.out (Nat.le_refl _) hfr2⟩
            have e1 : bs.take (8 * (q + 1)) = bs.take I ++ (bs.drop I).take 8 := by rw [show 8 * (q + 1) = I + 8 from by have := HI.out; omega, List.take_add]
            rw [e1, pack_append (n := q) (by rw [List.length_take]; have := HI.out; have := HL.out; omega)]
            have e2 : pack ((bs.drop I).take 8) = [V] := by rw [pack_small (by rw [List.length_take, List.length_drop]; have := HL.out; omega) (by rw [List.length_take]; omega), ← HVE.out]
            rw [e2]
            exact hown2
          case measure => simp [intOf]; omega
      obtain ⟨hj8, hjL2⟩ := hend
      obtain ⟨b, off, rfl, hcell⟩ := hc (I + j) hjL2
      clear hc
      have hcell := HK.out.cell (fun h => h) hcell
      have hs := val_take_succ (bs.drop I) j (by rw [List.length_drop]; have := HL.out; omega)
      have hbit : (bs.drop I).getD j 0 = bs.getD (I + j) 0 := by simp [List.getD_eq_getElem?_getD]
      rw [hbit, ← HV.out, ← HT.out] at hs
      have hb01 : bs.getD (I + j) 0 = 0 ∨ bs.getD (I + j) 0 = 1 := by
        have h1 := HL.out
        rw [List.getD_eq_getElem?_getD, List.getElem?_eq_getElem (show I + j < bs.length by omega)]
        exact HB.out _ (List.getElem_mem _)
      obtain ⟨y, hy⟩ : ∃ y, y = bs.getD (I + j) 0 := ⟨_, rfl⟩
      rw [← hy] at hs hb01 hcell
      have hm0 : 0 ≤ y * t := by rcases hb01 with h | h <;> rw [h] <;> omega
      have hm1 : y * t ≤ t := by rcases hb01 with h | h <;> rw [h] <;> omega
      have ht7 : t ≤ 128 := by
        have h7 : ∀ m : Nat, m ≤ 7 → (2 : Int) ^ m ≤ 128 := by decide
        rw [HT.out]; exact h7 j (by omega)
      have HSS := Lib.hid hs
      clear hs hbit hy hb01
      go_wp2_with fail
      go_round
      all_goals go_light
      case rel =>
        exact ⟨j + 1, V + y * t, t * 2, by omega, by omega, by go_num, rfl, rfl, by omega, by omega, by omega, by omega, by show t * 2 = 2 ^ (j + 1); rw [HT.out, Int.pow_succ], HSS.out.symm⟩
      case measure => simp [intOf]; omega
end Go.Proofs.Ytjdpijjoblfoaaa
