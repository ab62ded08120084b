/- HuffApart: the walk. -/
import Derived.Test.YtbbljpkboojjhaaHfLives
import Derived.Test.YtbbljpkboojjhaaHfMayR
import Derived.Test.YtbbljpkboojjhaaHfApartP
import Derived.Test.YtbbljpkboojjhaaRefRowH
import Derived.BigQuiet
namespace Go.Proofs.Ytbbljpkboojjhaa
open Go.RowKit

set_option maxRecDepth 100000 in
set_option maxHeartbeats 8000000 in
theorem walkHuffApart {v : Value} {zs : List Int} {ia ib : Int} {w : World} (h : Ints .i64 w v zs) (hwa : (Lit.int .u8 ia).wf = true) (hwb : (Lit.int .u8 ib).wf = true) :
    Calls Try.prog 6 #[v, .int .u8 ia, .int .u8 ib] w fun e w' => e = .returned (.bool true) ∧ Keeps w w' := by
  have HV := Lib.hid h
  have ha8 := wf_byte hwa
  have hb8 := wf_byte hwb
  have HWA := Lib.hid hwa
  have HWB := Lib.hid hwb
  obtain ⟨na, hna⟩ : ∃ n : Nat, ia = (n : Int) := ⟨ia.toNat, by omega⟩
  obtain ⟨nb, hnb⟩ : ∃ n : Nat, ib = (n : Int) := ⟨ib.toNat, by omega⟩
  subst hna
  subst hnb
  have HMR := Lib.hid (refMay h)
  obtain ⟨_, a, cap, rfl, hcap, hmax, _, hc⟩ := h
  have HC := Lib.hid hc
  obtain ⟨N, hN⟩ : ∃ N, N = zs.length := ⟨_, rfl⟩
  rw [← hN] at hcap HC HV HMR ⊢
  have HN := Lib.hid hN
  unfold maxLen at hmax
  clear hc hN hwa hwb
  by_cases hm : HMay zs
  case neg =>
    have hmr := HMR.out
    rw [decide_eq_false hm] at hmr
    have HME := Lib.hid hmr
    clear hmr hm
    go_enter Try.func6, Try.ntmps6
    go_wp2_with fail
    refine HME.out.mono ?_
    rintro e1 w1 ⟨rfl, hw1⟩
    rw [hw1]
    clear hw1
    go_wp2_with (go_at_call 11; refine (livesHuff _).mono ?_; rintro e w7 ⟨rfl, k7⟩; have K7 := Lib.hid k7; clear k7)
    go_ret
    go_light
    exact ⟨rfl, K7.out⟩
  case pos =>
    have hmr := HMR.out
    rw [decide_eq_true hm] at hmr
    have HME := Lib.hid hmr
    have HMM := Lib.hid hm
    have hN256 : N ≤ 256 := by rw [HN.out]; exact hm.1.2.1
    clear hmr hm
    by_cases hab : na = nb
    case pos =>
      subst hab
      go_enter Try.func6, Try.ntmps6
      go_wp2_with fail
      refine HME.out.mono ?_
      rintro e1 w1 ⟨rfl, hw1⟩
      rw [hw1]
      clear hw1
      go_wp2_with (go_at_call 11; refine (livesHuff _).mono ?_; rintro e w7 ⟨rfl, k7⟩; have K7 := Lib.hid k7; clear k7)
      go_ret
      go_light
      exact ⟨rfl, K7.out⟩
    case neg =>
      have tab : ((na : Int) == (nb : Int)) = false := by simp; omega
      have tab2 : ¬ (na : Int) = (nb : Int) := by omega
      have tab3 : (na == nb) = false := by simp; exact hab
      by_cases haN : na < N
      case neg =>
        have td : decide ((N : Int) ≤ (na : Int)) = true := decide_eq_true (by omega)
        have td' : decide (N ≤ na) = true := decide_eq_true (by omega)
        go_enter Try.func6, Try.ntmps6
        go_wp2_with fail
        refine HME.out.mono ?_
        rintro e1 w1 ⟨rfl, hw1⟩
        rw [hw1]
        clear hw1
        go_wp2_with (go_at_call 11; refine (livesHuff _).mono ?_; rintro e w7 ⟨rfl, k7⟩; have K7 := Lib.hid k7; clear k7)
        go_ret
        go_light
        exact ⟨rfl, K7.out⟩
      case pos =>
        have td : decide ((N : Int) ≤ (na : Int)) = false := decide_eq_false (by omega)
        have td' : decide (N ≤ na) = false := decide_eq_false (by omega)
        have ta : (na : Int) < (N : Int) := by omega
        by_cases hbN : nb < N
        case neg =>
          have te : decide ((N : Int) ≤ (nb : Int)) = true := decide_eq_true (by omega)
          have te' : decide (N ≤ nb) = true := decide_eq_true (by omega)
          go_enter Try.func6, Try.ntmps6
          go_wp2_with fail
          refine HME.out.mono ?_
          rintro e1 w1 ⟨rfl, hw1⟩
          rw [hw1]
          clear hw1
          go_wp2_with (go_at_call 11; refine (livesHuff _).mono ?_; rintro e w7 ⟨rfl, k7⟩; have K7 := Lib.hid k7; clear k7)
          go_ret
          go_light
          exact ⟨rfl, K7.out⟩
        case pos =>
          have te : decide ((N : Int) ≤ (nb : Int)) = false := decide_eq_false (by omega)
          have te' : decide (N ≤ nb) = false := decide_eq_false (by omega)
          have tb : (nb : Int) < (N : Int) := by omega
          obtain ⟨b, off, hx, ca⟩ := HC.out na haN
          subst hx
          obtain ⟨b2, off2, hx, cb⟩ := HC.out nb hbN
          cases hx
          have hza := HMM.out.2.1 na (by rw [← HN.out]; exact haN)
          have hzb := HMM.out.2.1 nb (by rw [← HN.out]; exact hbN)
          obtain ⟨x, hx⟩ : ∃ x, x = zs.getD na 0 := ⟨_, rfl⟩
          obtain ⟨y, hy⟩ : ∃ y, y = zs.getD nb 0 := ⟨_, rfl⟩
          rw [← hx] at ca hza
          rw [← hy] at cb hzb
          have HX := Lib.hid hx
          have HY := Lib.hid hy
          clear hx hy
          by_cases hx0 : x = 0
          case pos =>
            subst hx0
            go_enter Try.func6, Try.ntmps6
            go_wp2_with fail
            refine HME.out.mono ?_
            rintro e1 w1 ⟨rfl, hw1⟩
            rw [hw1]
            clear hw1
            go_wp2_with (go_at_call 11; refine (livesHuff _).mono ?_; rintro e w7 ⟨rfl, k7⟩; have K7 := Lib.hid k7; clear k7)
            go_ret
            go_light
            exact ⟨rfl, K7.out⟩
          case neg =>
            have tx : (x == 0) = false := by simp; exact hx0
            by_cases hy0 : y = 0
            case pos =>
              subst hy0
              go_enter Try.func6, Try.ntmps6
              go_wp2_with fail
              refine HME.out.mono ?_
              rintro e1 w1 ⟨rfl, hw1⟩
              rw [hw1]
              clear hw1
              go_wp2_with (go_at_call 11; refine (livesHuff _).mono ?_; rintro e w7 ⟨rfl, k7⟩; have K7 := Lib.hid k7; clear k7)
              go_ret
              go_light
              exact ⟨rfl, K7.out⟩
            case neg =>
              have ty : (y == 0) = false := by simp; exact hy0
              obtain ⟨nx, hnx⟩ : ∃ n : Nat, x = (n : Int) := ⟨x.toNat, by omega⟩
              obtain ⟨ny, hny⟩ : ∃ n : Nat, y = (n : Int) := ⟨y.toNat, by omega⟩
              subst hnx
              subst hny
              have haz : na < zs.length := by rw [← HN.out]; exact haN
              have hbz : nb < zs.length := by rw [← HN.out]; exact hbN
              have hx0' : zs.getD na 0 ≠ 0 := by rw [← HX.out]; exact hx0
              have hy0' : zs.getD nb 0 ≠ 0 := by rw [← HY.out]; exact hy0
              have EA := Lib.hid (encS_one HMM.out haz hx0')
              have EB := Lib.hid (encS_one HMM.out hbz hy0')
              obtain ⟨P, hP, hPl, hPb⟩ := row_one zs (na : Int)
              obtain ⟨Q, hQ, hQl, hQb⟩ := row_one zs (nb : Int)
              simp only [Int.toNat_natCast] at hPl hPb hQl hQb
              have hdiff := apart_bits HMM.out haz hbz hx0' hy0' hab P Q hPb hQb
              rw [← HX.out] at hPl hdiff
              rw [← HY.out] at hQl hdiff
              simp only [Int.toNat_natCast] at hPl hQl hdiff
              have HP := Lib.hid hP
              have HQ := Lib.hid hQ
              have HD := Lib.hid hdiff
              have HPL := Lib.hid hPl
              have HQL := Lib.hid hQl
              have hca : (pack (codeB zs (na : Int))).length ≤ 1000000000000 := by
                have h1 := codeB_len zs (na : Int)
                rw [pack_length, h1, Int.toNat_natCast, ← HX.out]
                omega
              have hcb : (pack (codeB zs (nb : Int))).length ≤ 1000000000000 := by
                have h1 := codeB_len zs (nb : Int)
                rw [pack_length, h1, Int.toNat_natCast, ← HY.out]
                omega
              have HCA := Lib.hid hca
              have HCB := Lib.hid hcb
              clear haz hbz hx0' hy0' hP hPl hPb hQ hQl hQb hdiff hca hcb
              go_enter Try.func6, Try.ntmps6
              go_wp2_with fail
              refine HME.out.mono ?_
              rintro e1 w1 ⟨rfl, hw1⟩
              rw [hw1]
              clear hw1
              go_wp2_with fail
              refine (huffEncode (HV.out.keeps ((Fr.refl _ _).alloc _)) (ints_one HWA.out) (by simp)).mono ?_
              rw [EA.out]
              rintro e2 w2 ⟨x2, rfl, ho2, k2⟩
              have K2 : Hid (Keeps w w2) := ((Fr.refl _ _).alloc _).keeps k2
              have HI2 := Lib.hid ho2.ints
              obtain ⟨a2, c2, hv2⟩ := ho2.form
              subst hv2
              clear ho2 k2
              go_wp2_with fail
              refine (huffEncode ((HV.out.keeps K2.out).keeps ((Fr.refl _ _).alloc _)) (ints_one HWB.out) (by simp)).mono ?_
              rw [EB.out]
              rintro e3 w3 ⟨x3, rfl, ho3, k3⟩
              have k23 : Keeps w2 w3 := ((Fr.refl _ _).alloc _).keeps k3
              have K3 : Hid (Keeps w w3) := K2.out.keeps k23
              have HI3 := Lib.hid ho3.ints
              have HI23 := Lib.hid (HI2.out.keeps k23)
              obtain ⟨a3, c3, hv3⟩ := ho3.form
              subst hv3
              clear ho3 k3 k23
              go_wp2_with fail
              refine (refRow HI23.out HCA.out).mono ?_
              rw [HP.out]
              rintro e4 w4 ⟨x4, rfl, ho4, k4⟩
              have K4 : Hid (Keeps w w4) := K3.out.keeps k4
              have HI34 := Lib.hid (HI3.out.keeps k4)
              have HO4 := Lib.hid ho4
              obtain ⟨a4, c4, hv4⟩ := ho4.form
              obtain ⟨LP, hLP⟩ : ∃ L, L = P.length := ⟨_, rfl⟩
              rw [← hLP] at hv4 HPL
              subst hv4
              have HLP := Lib.hid hLP
              clear ho4 k4 hLP
              go_wp2_with fail
              refine (refRow HI34.out HCB.out).mono ?_
              rw [HQ.out]
              rintro e5 w5 ⟨x5, rfl, ho5, k5⟩
              have K5 : Hid (Keeps w w5) := K4.out.keeps k5
              have HP5 := Lib.hid (HO4.out.ints.keeps k5)
              have HQ5 := Lib.hid ho5.ints
              obtain ⟨a5, c5, hv5⟩ := ho5.form
              obtain ⟨LQ, hLQ⟩ : ∃ L, L = Q.length := ⟨_, rfl⟩
              rw [← hLQ] at hv5 HQL
              subst hv5
              have HLQ := Lib.hid hLQ
              have ca := K5.out.cell (fun h => h) ca
              have cb := K5.out.cell (fun h => h) cb
              have hpl := HPL.out
              have hql := HQL.out
              have u1 : decide ((LP : Int) < (nx : Int)) = false := decide_eq_false (by omega)
              have u1' : decide (LP < nx) = false := decide_eq_false (by omega)
              have u2 : decide ((LQ : Int) < (ny : Int)) = false := decide_eq_false (by omega)
              have u2' : decide (LQ < ny) = false := decide_eq_false (by omega)
              clear ho5 k5 hLQ
              go_wp2_with fail
              go_loopw [14] (fun iv wr => ∃ k : Nat, iv = .int .i64 k ∧ k ≤ nx ∧ k ≤ ny ∧ (∀ i, i < k → P.getD i 0 = Q.getD i 0) ∧ Keeps w5 wr) (fun iv _ => nx - (intOf iv).toNat)
              case atStart => exact ⟨0, rfl, by omega, by omega, fun i hi => by omega, Fr.refl _ _⟩
              case round =>
                obtain ⟨k, rfl, hkx, hky, hsame, hkp⟩ := hrel
                have HSA := Lib.hid hsame
                have KK := Lib.hid hkp
                have ca := hkp.cell (fun h => h) ca
                have cb := hkp.cell (fun h => h) cb
                by_cases hlt : k < nx ∧ k < ny
                case neg =>
                  exfalso
                  obtain ⟨i, h1, h2, h3⟩ := HD.out
                  exact h3 (HSA.out i (by omega))
                case pos =>
                  obtain ⟨hl1, hl2⟩ := hlt
                  obtain ⟨_, ap, cp, hvp, _, _, _, hcp⟩ := HP5.out
                  rw [← HLP.out] at hvp hcp
                  injection hvp with e1 e2 e3
                  subst e1
                  subst e3
                  obtain ⟨bp, op, hap, cpk⟩ := hcp k (by omega)
                  subst hap
                  have cpk := hkp.cell (fun h => h) cpk
                  obtain ⟨_, aq, cq, hvq, _, _, _, hcq⟩ := HQ5.out
                  rw [← HLQ.out] at hvq hcq
                  injection hvq with e1 e2 e3
                  subst e1
                  subst e3
                  obtain ⟨bq, oq, haq, cqk⟩ := hcq k (by omega)
                  subst haq
                  have cqk := hkp.cell (fun h => h) cqk
                  have HNX : Hid (P.getD k 0 = Q.getD k 0 → ∀ i, i < k + 1 → P.getD i 0 = Q.getD i 0) := fun h i hi => by
                    by_cases e : i = k
                    · subst e; exact h
                    · exact HSA.out i (by omega)
                  obtain ⟨p, hp⟩ : ∃ p, p = P.getD k 0 := ⟨_, rfl⟩
                  obtain ⟨q, hq⟩ : ∃ q, q = Q.getD k 0 := ⟨_, rfl⟩
                  rw [← hp] at cpk HNX
                  rw [← hq] at cqk HNX
                  have v1 : (k : Int) < (nx : Int) := by omega
                  have v1' : decide ((k : Int) < (nx : Int)) = true := decide_eq_true v1
                  have v2 : (k : Int) < (ny : Int) := by omega
                  have v2' : decide ((k : Int) < (ny : Int)) = true := decide_eq_true v2
                  have v3 : (k : Int) < (LP : Int) := by omega
                  have v4 : (k : Int) < (LQ : Int) := by omega
                  have v0 : (0 : Int) ≤ (k : Int) := by omega
                  clear hcp hcq hp hq hsame hkp
                  by_cases hpq : p = q
                  · have ne : (p != q) = false := by simp; exact hpq
                    go_wp2_with fail
                    go_quiet (fail)
                    go_wp2_with fail
                    go_roundw
                    all_goals go_light
                    case rel => exact ⟨k + 1, by go_num, by omega, by omega, HNX.out hpq, KK.out.drewN _⟩
                    case measure => simp [intOf]; omega
                  · have ne : (p != q) = true := by simp; exact hpq
                    go_wp2_with fail
                    go_quiet (fail)
                    go_wp2_with (go_at_call 11; refine (livesHuff _).mono ?_; rintro e w7 ⟨rfl, k7⟩; have K7 := Lib.hid k7; clear k7)
                    go_ret
                    go_light
                    exact ⟨rfl, (K5.out.keeps (KK.out.drewN _)).keeps K7.out⟩
end Go.Proofs.Ytbbljpkboojjhaa
