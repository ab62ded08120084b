/- MatchUses: the walk. -/
import Derived.Test.YtkckabfbngkkpaaLivesM
import Derived.Test.YtkckabfbngkkpaaLawMatchFindsW
namespace Go.Proofs.Ytkckabfbngkkpaa
open Go.RowKit

/-- what stands ahead of the next step, and the step -/
theorem findS_open (zs : List Int) (win : Nat) : ∀ m i lits, m = zs.length - i → i ≤ zs.length →
    (findS zs win i lits = [] ∧ ∀ k, i ≤ k → k < zs.length → IsLit zs win k) ∨
    (∃ T, i + T < zs.length ∧ (∀ k, i ≤ k → k < i + T → IsLit zs win k) ∧ ¬ IsLit zs win (i + T) ∧
      findS zs win i lits = [((lits + T : Nat) : Int), ((best zs win (i + T)).1 : Int), ((best zs win (i + T)).2 : Int)] :: findS zs win (i + T + (best zs win (i + T)).1) 0) := by
  intro m
  induction m with
  | zero =>
    intro i lits hm hi
    exact .inl ⟨findS_end (by omega), fun k h1 h2 => by omega⟩
  | succ m ih =>
    intro i lits hm hi
    by_cases hl : IsLit zs win i
    · rw [findS_lit (by omega) hl]
      rcases ih (i + 1) (lits + 1) (by omega) (by omega) with ⟨h1, h2⟩ | ⟨T, h1, h2, h3, h4⟩
      · refine .inl ⟨h1, fun k h3 h4 => ?_⟩
        by_cases he : k = i
        · rw [he]; exact hl
        · exact h2 k (by omega) h4
      · refine .inr ⟨T + 1, by omega, fun k h5 h6 => ?_, by rw [show i + (T + 1) = i + 1 + T by omega]; exact h3, ?_⟩
        · by_cases he : k = i
          · rw [he]; exact hl
          · exact h2 k (by omega) (by omega)
        · rw [h4, show i + (T + 1) = i + 1 + T by omega, show lits + (T + 1) = lits + 1 + T by omega]
    · exact .inr ⟨0, by omega, fun k h1 h2 => by omega, hl, findS_step (by omega) hl⟩

theorem drop_cons {l t : List (List Int)} {a : List Int} {i : Nat} (h : l.drop i = a :: t) : i < l.length ∧ l.getD i [] = a ∧ l.drop (i + 1) = t := by
  have h1 : i < l.length := by
    rcases Nat.lt_or_ge i l.length with h1 | h1
    · exact h1
    · rw [List.drop_eq_nil_of_le h1] at h; cases h
  rw [List.drop_eq_getElem_cons h1] at h
  obtain ⟨h2, h3⟩ := List.cons.inj h
  exact ⟨h1, by rw [List.getD_eq_getElem?_getD, List.getElem?_eq_getElem h1]; exact h2, h3⟩

set_option maxRecDepth 100000 in
set_option maxHeartbeats 4000000 in
theorem walkMatchUses {v : Value} {zs : List Int} {win : Int} {w : World} (h : Ints .u8 w v zs) :
    Calls Try.prog 5 #[v, .int .i64 win] w fun e w' => e = .returned (.bool true) ∧ Keeps w w' := by
  obtain ⟨va, vc, rfl, hc1, hc2, hI, hcut⟩ := h.cut
  obtain ⟨Z, hZ⟩ : ∃ Z, Z = zs.length := ⟨_, rfl⟩
  have HI : Hid (∃ n ys, ys.length = n ∧ n ≤ 2000 ∧ n = min Z 2000 ∧ Ints .u8 w (.slice va n vc) ys) := by
    by_cases h3 : zs.length ≤ 2000
    · exact ⟨zs.length, zs, rfl, h3, by omega, hI⟩
    · exact ⟨2000, zs.take 2000, by rw [List.length_take]; omega, by omega, by omega, hcut 2000 (by omega)⟩
  obtain ⟨n, ys, hyn, hn3, hnm, hint⟩ := HI.out
  rw [← hZ] at hc1 ⊢
  have HN := Lib.hid hyn
  have HT := Lib.hid hint
  clear h hI hcut hZ hyn hint HI
  have hor : (Z ≤ 2000 ∧ Z = n) ∨ (2000 < Z ∧ n = 2000) := by omega
  by_cases hb : FindBad ys.length win
  · have HB := Lib.hid hb
    clear hb hnm
    rcases hor with ⟨h3, rfl⟩ | ⟨h3, rfl⟩
    all_goals
      go_enter Try.func5, Try.ntmps5
      go_wp2_with fail
      refine (matchFindNo HT.out HB.out).mono ?_
      rintro e w2 ⟨rfl, rfl⟩
      go_wp2_with fail
      refine (livesMatch _).mono ?_
      rintro e w7 ⟨rfl, k7⟩
      have K7 := Lib.hid k7
      clear k7
      go_wp2_with fail
      go_ret
      go_light
      exact ⟨rfl, K7.out⟩
  · unfold FindBad at hb
    obtain ⟨wn, rfl⟩ := Int.eq_ofNat_of_zero_le (show 0 ≤ win by omega)
    have hw1 : 1 ≤ wn := by omega
    have hw2 : wn ≤ 65536 := by omega
    have hln := findS_length ys wn ys.length 0 0 (by omega)
    have HBC : Hid (∀ (w2 wx : World), Keeps w w2 → Keeps w2 wx → ∀ (i : Nat) (j : Int), j = (i : Nat) → i ≤ 3000 → Calls Try.prog 16 #[.slice va n vc, .int .i64 wn, .int .i64 j] wx fun e w' => e = .returned (.tuple #[.int .i64 ((best ys wn i).1 : Nat), .int .i64 ((best ys wn i).2 : Nat)]) ∧ Keeps wx w') := fun w2 wx k1 k2 i j hj hi => by
      rw [hj]
      exact refBest (HT.out.keeps (k1.keeps k2)) (by rw [HN.out]; omega) hw2 (by omega)
    obtain ⟨N, hNN⟩ : ∃ N, N = (findS ys wn 0 0).length := ⟨_, rfl⟩
    rw [← hNN] at hln
    have hN2 : N ≤ 2000 := by have := HN.out; omega
    have HNN := Lib.hid hNN
    clear hb hnm hln hNN
    rcases hor with ⟨h3, rfl⟩ | ⟨h3, rfl⟩
    all_goals
      go_enter Try.func5, Try.ntmps5
      go_wp2_with fail
      refine (matchFind HT.out (by rw [HN.out]; omega) hw1 hw2).mono ?_
      rintro e w2 ⟨v2, rfl, ho2, k2⟩
      have hrec := ho2.recs
      obtain ⟨la, lc, hlv⟩ := ho2.form
      rw [← HNN.out] at hlv
      subst hlv
      have HR2 := Lib.hid hrec
      clear hrec
      have K2 := Lib.hid k2
      clear ho2 k2
      go_wp2_with fail
      go_loopw [7, 8] (fun av iv wr => ∃ (at_ i : Nat), av = .int .i64 at_ ∧ iv = .int .i64 i ∧ at_ ≤ ys.length ∧ ((i ≤ N ∧ Hid ((findS ys wn 0 0).drop i = findS ys wn at_ 0)) ∨ (i = N + 1 ∧ at_ = ys.length)) ∧ Keeps w2 wr) (fun _ iv _ => N + 1 - (intOf iv).toNat)
      case atStart => exact ⟨0, 0, rfl, rfl, by omega, .inl ⟨by omega, rfl⟩, Fr.refl _ _⟩
      case round =>
        obtain ⟨at_, i, rfl, rfl, hat, hor, hk⟩ := hrel
        have HK := Lib.hid hk
        clear hk
        rw [HN.out] at hat hor
        rcases hor with ⟨hi, HD⟩ | ⟨rfl, rfl⟩
        case inr =>
          go_wp2_with (go_at_call 12; refine (livesMatch _).mono ?_; rintro e w7 ⟨rfl, k7⟩; have K7 := Lib.hid k7; clear k7)
          go_ret
          go_light
          exact ⟨rfl, (K2.out.keeps HK.out).keeps K7.out⟩
        case inl =>
          rcases findS_open ys wn (ys.length - at_) at_ 0 rfl (by rw [HN.out]; omega) with ⟨h1, h2⟩ | ⟨T, h1, h2, h3, h4⟩
          · have hNi : N ≤ i := by
              have := congrArg List.length (HD.out.trans h1)
              rw [List.length_drop, ← HNN.out] at this
              simp at this
              omega
            obtain ⟨T, hT1, hT2⟩ : ∃ T, at_ + T ≤ ys.length ∧ ys.length ≤ at_ + T := ⟨ys.length - at_, by rw [HN.out]; omega, by rw [HN.out]; omega⟩
            have H2 : Hid (∀ k, k < T → IsLit ys wn (at_ + k)) := fun k hk => h2 (at_ + k) (by omega) (by omega)
            rw [HN.out] at hT1 hT2
            have hdi : ¬ i < N := by omega
            clear h1 h2 HD
            go_wp2_with fail
            go_loopw [10] (fun kv wx => ∃ k : Nat, k ≤ T ∧ kv = .int .i64 k ∧ Keeps w2 wx) (fun kv _ => T - (intOf kv).toNat)
            case atStart => exact ⟨0, by omega, rfl, HK.out⟩
            case round =>
              obtain ⟨k, hk, rfl, hkx⟩ := hrel
              have HKX := Lib.hid hkx
              clear hkx
              by_cases hkT : k < T
              case pos =>
                have hlit := H2.out k hkT
                have hc1 := HBC.out w2 wr K2.out HKX.out (at_ + k) ((at_ : Int) + (k : Int)) (by omega) (by omega)
                have hc2 := fun wx kx => HBC.out w2 wx K2.out kx (at_ + k + 1) ((at_ : Int) + (k : Int) + 1) (by omega) (by omega)
                unfold IsLit at hlit
                generalize (best ys wn (at_ + k)).1 = nn at *
                generalize (best ys wn (at_ + k)).2 = dd at *
                generalize (best ys wn (at_ + k + 1)).1 = mm at *
                generalize (best ys wn (at_ + k + 1)).2 = ee at *
                have HC1 := Lib.hid hc1
                have HC2 := Lib.hid hc2
                clear hc1 hc2
                go_wp2_with fail
                refine HC1.out.mono ?_
                rintro e w5 ⟨rfl, k5⟩
                have K5 : Hid (Keeps w2 w5) := HKX.out.keeps k5
                clear k5
                go_wp2_with fail
                refine (HC2.out w5 K5.out).mono ?_
                rintro e w6 ⟨rfl, k6⟩
                have K6 : Hid (Keeps w2 w6) := K5.out.keeps k6
                clear k6
                have hor2 : nn ≤ 0 ∨ (0 < nn ∧ nn < mm) := by omega
                clear hlit
                rcases hor2 with g1 | ⟨g1, g2⟩
                all_goals
                  go_wp2_with fail
                  go_roundw
                  all_goals go_light
                  case rel => exact ⟨k + 1, by omega, by go_num, K6.out⟩
                  case measure => simp [intOf]; omega
              case neg =>
                have hTk : T ≤ k := by omega
                go_wp2_with fail
                go_roundw
                all_goals go_light
                case rel => exact ⟨ys.length, i + 1, congrArg (Value.int .i64) (by rw [HN.out]; omega), by go_num, Nat.le_refl _, .inr ⟨by omega, rfl⟩, HKX.out⟩
                case measure => simp [intOf]; omega
          · obtain ⟨g1, g2, g3⟩ := drop_cons (HD.out.trans h4)
            rw [← HNN.out] at g1
            rw [Nat.zero_add] at g2
            have hbl := best_len ys wn (at_ + T)
            have hbs := (best_snd ys wn (at_ + T)).1
            have hc3 := fun wx kx => HBC.out w2 wx K2.out kx (at_ + T) ((at_ : Int) + (T : Int)) (by omega) (by rw [HN.out] at h1; omega)
            have H2 : Hid (∀ k, k < T → IsLit ys wn (at_ + k)) := fun k hk => h2 (at_ + k) (by omega) (by omega)
            clear h2 h3 h4 HD
            generalize (best ys wn (at_ + T)).1 = n1 at *
            generalize (best ys wn (at_ + T)).2 = d1 at *
            rw [HN.out] at h1 hbl
            have HC3 := Lib.hid hc3
            have G3 := Lib.hid g3
            obtain ⟨_, lb, lo, hla, _, q0, q1, q2, hqe, c0, c1, c2, _, _, _⟩ := (HNN.out ▸ HR2.out : Recs 3 w2 (.slice la (findS ys wn 0 0).length lc) (findS ys wn 0 0)).row3 (k := i) (by rw [← HNN.out]; exact g1)
            rw [g2] at hqe
            cases hqe
            subst hla
            have C1 := Lib.hid c1
            have C2 := Lib.hid c2
            have c0 := HK.out.cell (fun h => h) c0
            clear c1 c2 g2 g3 hc3
            go_wp2_with fail
            go_loopw [10] (fun kv wx => ∃ k : Nat, k ≤ T ∧ kv = .int .i64 k ∧ Keeps w2 wx) (fun kv _ => T - (intOf kv).toNat)
            case atStart => exact ⟨0, by omega, rfl, HK.out⟩
            case round =>
              obtain ⟨k, hk, rfl, hkx⟩ := hrel
              have HKX := Lib.hid hkx
              clear hkx
              by_cases hkT : k < T
              case pos =>
                have hlit := H2.out k hkT
                have hc1 := HBC.out w2 wr K2.out HKX.out (at_ + k) ((at_ : Int) + (k : Int)) (by omega) (by omega)
                have hc2 := fun wx kx => HBC.out w2 wx K2.out kx (at_ + k + 1) ((at_ : Int) + (k : Int) + 1) (by omega) (by omega)
                unfold IsLit at hlit
                generalize (best ys wn (at_ + k)).1 = nn at *
                generalize (best ys wn (at_ + k)).2 = dd at *
                generalize (best ys wn (at_ + k + 1)).1 = mm at *
                generalize (best ys wn (at_ + k + 1)).2 = ee at *
                have HC1 := Lib.hid hc1
                have HC2 := Lib.hid hc2
                clear hc1 hc2
                go_wp2_with fail
                refine HC1.out.mono ?_
                rintro e w5 ⟨rfl, k5⟩
                have K5 : Hid (Keeps w2 w5) := HKX.out.keeps k5
                clear k5
                go_wp2_with fail
                refine (HC2.out w5 K5.out).mono ?_
                rintro e w6 ⟨rfl, k6⟩
                have K6 : Hid (Keeps w2 w6) := K5.out.keeps k6
                clear k6
                have hor2 : nn ≤ 0 ∨ (0 < nn ∧ nn < mm) := by omega
                clear hlit
                rcases hor2 with g1 | ⟨g1, g2⟩
                all_goals
                  go_wp2_with fail
                  go_roundw
                  all_goals go_light
                  case rel => exact ⟨k + 1, by omega, by go_num, K6.out⟩
                  case measure => simp [intOf]; omega
              case neg =>
                have hTk : T ≤ k := by omega
                have c1 := HKX.out.cell (fun h => h) C1.out
                have c2 := HKX.out.cell (fun h => h) C2.out
                go_wp2_with fail
                refine (HC3.out wr HKX.out).mono ?_
                rintro e w8 ⟨rfl, k8⟩
                have c1 := k8.cell (fun h => h) c1
                have c2 := k8.cell (fun h => h) c2
                have K8 : Hid (Keeps w2 w8) := HKX.out.keeps k8
                have e1 : ((n1 : Int) != (n1 : Int)) = false := by simp
                have e2 : ((d1 : Int) != (d1 : Int)) = false := by simp
                have e3 : (d1 : Int) ≤ (wn : Int) := by omega
                clear k8
                go_wp2_with fail
                go_roundw
                all_goals go_light
                case rel => exact ⟨at_ + T + n1, i + 1, by go_num, by go_num, by rw [HN.out]; omega, .inl ⟨by omega, G3.out⟩, K8.out⟩
                case measure => simp [intOf]; omega
end Go.Proofs.Ytkckabfbngkkpaa
