/- 'BitsNums' returns true: the walk. -/
import Derived.Test.YtbbldbdmnaielaaLives
import Derived.Test.YtbbldbdmnaielaaPutNum
import Derived.Test.YtbbldbdmnaielaaSame
namespace Go.Proofs.Ytbbldbdmnaielaa
open Go.RowKit

theorem putS_length : ∀ (f : Nat) (m : Int), 0 ≤ m → m < 128 ^ f → 1 ≤ f → 1 ≤ (putS f m).length ∧ (putS f m).length ≤ f := by
  intro f
  induction f with
  | zero => intro m _ _ h; omega
  | succ f ih =>
    intro m h0 h1 _
    by_cases h : 128 ≤ m
    · rw [putS_more h]
      rw [Int.pow_succ] at h1
      have hf : 1 ≤ f := by
        rcases Nat.eq_zero_or_pos f with h' | h'
        · subst h'; simp at h1; omega
        · exact h'
      have := ih (m / 128) (by omega) (by omega) hf
      simp; omega
    · rw [putS_last (by omega)]; simp

theorem numS_putS : ∀ (f : Nat) (m : Int) (pre ys : List Int) (s n : Int), 0 ≤ m → m < 128 ^ f → 1 ≤ f → 0 < s → n + m * s ≤ 4294967295 → (pre.length = 0 ∨ 0 < m) →
    numS (pre ++ (putS f m ++ ys)) f pre.length s n = (n + m * s, (pre.length : Int) + (putS f m).length, 0) := by
  intro f
  induction f with
  | zero => intro m _ _ _ _ _ _ h; omega
  | succ f ih =>
    intro m pre ys s n h0 h1 _ hs hn hp
    by_cases h : 128 ≤ m
    · rw [Int.pow_succ] at h1
      have hf : 1 ≤ f := by
        rcases Nat.eq_zero_or_pos f with h' | h'
        · subst h'; simp at h1; omega
        · exact h'
      rw [putS_more h]
      have e1 : (pre ++ ((m % 128 + 128) :: putS f (m / 128) ++ ys)).getD pre.length 0 = m % 128 + 128 := by
        simp [List.getD_eq_getElem?_getD, List.getElem?_append_right]
      have e2 : (m % 128 + 128) % 128 = m % 128 := by omega
      rw [numS_cont (by simp) (by rw [e1]; omega), e1, e2]
      have e3 : pre ++ ((m % 128 + 128) :: putS f (m / 128) ++ ys) = (pre ++ [m % 128 + 128]) ++ (putS f (m / 128) ++ ys) := by simp
      have e4 : pre.length + 1 = (pre ++ [m % 128 + 128]).length := by simp
      have e5 : m % 128 * s + m / 128 * (s * 128) = m * s := by
        rw [Int.mul_comm s 128, ← Int.mul_assoc, ← Int.add_mul]
        congr 1
        omega
      rw [e3, e4, ih (m / 128) (pre ++ [m % 128 + 128]) ys (s * 128) (n + m % 128 * s) (by omega) (by omega) hf (by omega) (by omega) (.inr (by omega))]
      have e6 : n + m % 128 * s + m / 128 * (s * 128) = n + m * s := by omega
      rw [e6]
      simp
      omega
    · rw [putS_last (by omega)]
      have e1 : (pre ++ ([m] ++ ys)).getD pre.length 0 = m := by simp [List.getD_eq_getElem?_getD, List.getElem?_append_right]
      have e2 : m % 128 = m := by omega
      rw [numS_good (by simp) (by rw [e1]; omega) (by rw [e1, e2]; omega), e1, e2]
      simp

set_option maxRecDepth 100000 in
set_option maxHeartbeats 1000000 in
theorem walkBitsNums {v u : Value} {zs ys : List Int} {n : Int} {w : World} (h : Ints .u8 w v zs) (hz : zs.length ≤ 140737488351232) (hu : Ints .u8 w u ys) (hy : ys.length ≤ 140737488351232) :
    Calls Try.prog 5 #[v, .int .i64 n, u] w fun e w' => e = .returned (.bool true) ∧ Keeps w w' := by
  by_cases hn : 0 ≤ n ∧ n ≤ 4294967295
  · obtain ⟨h0, h1⟩ := hn
    have hl := putS_length 5 n h0 (by omega) (by omega)
    have hnum := numS_putS 5 n [] ys 1 0 h0 (by omega) (by omega) (by omega) (by omega) (.inl rfl)
    go_enter Try.func5, Try.ntmps5
    go_wp2_with fail
    refine (putNumOk h (by omega) h0 h1).mono ?_
    rintro e w1 ⟨v1, rfl, o1, k1⟩
    go_wp2_with fail
    refine (refPutNumOk (h.keeps k1) (by omega) h0 h1).mono ?_
    rintro e w2 ⟨v2, rfl, o2, k2⟩
    go_wp2_with fail
    refine (refSame (o1.keeps k2).ints o2.ints).mono ?_
    rintro e w3 ⟨rfl, k3⟩
    rw [decide_eq_true rfl]
    have kk := (k1.keeps k2).keeps k3
    have o3 := (o1.keeps k2).keeps k3
    have hu3 := Lib.hid (hu.keeps kk)
    obtain ⟨g, c, rfl, hc1, hc2, hg, hg2⟩ := o3.formNe (by rw [List.length_append]; omega)
    obtain ⟨av, cv, rfl⟩ := h.form
    obtain ⟨M, hM⟩ : ∃ M, M = (putS 5 n).length := ⟨_, rfl⟩
    obtain ⟨L, hL⟩ : ∃ L, L = zs.length := ⟨_, rfl⟩
    have hN : (zs ++ putS 5 n).length = L + M := by rw [List.length_append, hM, hL]
    have hd := (o3.ints.dropAt (j := L) (by omega) (by omega))
    rw [hN] at o3 hd hc1 ⊢
    rw [show (zs ++ putS 5 n).drop L = putS 5 n from by rw [hL]; exact List.drop_left, show L + M - L = M from by omega, Nat.zero_add] at hd
    rw [← hM] at hl
    rw [← hL] at hz ⊢
    have HK := Lib.hid kk
    have HNUM := Lib.hid hnum
    have HM := Lib.hid hM
    have HD := Lib.hid hd
    clear k1 k2 k3 kk o1 o2 o3 hN hnum hM hd h hu hL
    have hLc : (L : Int) < (c : Int) := by omega
    have hLM : L + M - L = M := by omega
    go_wp2_with (first
      | (at_builtin; refine wpList_ints rfl (.tmp 41) (.tmp 45) rfl elemB (.slice none 0 0) rfl rfl (Own.nil .u8 5 w3.heap.size _) HD.out (by rw [← HM.out]; simp; omega) (by omega) ?_; intro v4 w4 hown4 hfr4 hat4; simp only [List.nil_append] at hown4)
      | (at_builtin; refine wpList_ints rfl (.tmp 47) (.tmp 48) rfl elemB _ rfl rfl hown4 (hu3.out.keeps (hfr4.mono fun i hi h => by simp [Value.ownBlock] at h)) (by rw [← HM.out]; omega) (by have := hfr4.size; omega) ?_; intro v5 w5 hown5 hfr5 hat5))
    have K5 : Hid (Keeps w w5) := Keeps.own (Fr.keeps HK.out (hfr4.mono fun i hi h => by simp [Value.ownBlock] at h)) hown4 HK.out.size hfr5
    refine (bitsNum hown5.ints).mono ?_
    rintro e w6 ⟨rfl, n6, k6, r6, h6, rfl⟩
    obtain ⟨rfl, hk6, rfl⟩ : n = n6 ∧ (M : Int) = k6 ∧ 0 = r6 := by
      have h6' := HNUM.out
      rw [List.nil_append, show ([] : List Int).length = 0 from rfl, h6, ← HM.out] at h6'
      simp only [Prod.mk.injEq] at h6'
      omega
    clear h6 hat4 hat5 hfr4 hfr5 hown4 hown5 hLM
    have hk7 : (k6 == (L : Int) + (M : Int) - (L : Int)) = true := by simp; omega
    clear hk6
    go_wp2_with (go_at_call 13; refine (livesBits _).mono ?_; rintro e w7 ⟨rfl, k7⟩; have K7 := Lib.hid k7; clear k7)
    go_ret
    go_light
    exact ⟨rfl, K5.out.keeps K7.out⟩
  · have hn' : n < 0 ∨ 4294967295 < n := by omega
    go_enter Try.func5, Try.ntmps5
    go_wp2_with fail
    refine (putNumBad h (by omega) hn').mono ?_
    rintro e w1 ⟨v1, rfl, o1, k1⟩
    go_wp2_with fail
    refine (refPutNumBad (h.keeps k1) (by omega) hn').mono ?_
    rintro e w2 ⟨v2, rfl, o2, k2⟩
    go_wp2_with fail
    refine (refSame (o1.keeps k2).ints o2.ints).mono ?_
    rintro e w3 ⟨rfl, k3⟩
    rw [decide_eq_true rfl]
    have K3 := Lib.hid ((k1.keeps k2).keeps k3)
    clear k1 k2 k3 o1 o2 hn' hn
    go_wp2_with (go_at_call 13; refine (livesBits _).mono ?_; rintro e w7 ⟨rfl, k7⟩; have K7 := Lib.hid k7; clear k7)
    go_ret
    go_light
    exact ⟨rfl, Fr.keeps K3.out K7.out⟩
end Go.Proofs.Ytbbldbdmnaielaa
