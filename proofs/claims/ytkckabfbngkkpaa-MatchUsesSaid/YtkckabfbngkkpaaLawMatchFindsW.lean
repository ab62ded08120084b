/- MatchFinds: the walk. -/
import Derived.Test.YtkckabfbngkkpaaLivesM
import Derived.Test.YtkckabfbngkkpaaSameQ
namespace Go.Proofs.Ytkckabfbngkkpaa
open Go.RowKit

theorem findS_length (zs : List Int) (win : Nat) : ∀ m i lits, m = zs.length - i → (findS zs win i lits).length ≤ m := by
  intro m
  induction m using Nat.strongRecOn with
  | _ m ih =>
    intro i lits hm
    by_cases he : i < zs.length
    · by_cases hl : IsLit zs win i
      · rw [findS_lit he hl]
        have := ih (zs.length - (i + 1)) (by omega) (i + 1) (lits + 1) rfl
        omega
      · have h4 := (not_lit hl).1
        rw [findS_step he hl, List.length_cons]
        have := ih (zs.length - (i + (best zs win i).1)) (by omega) (i + (best zs win i).1) 0 rfl
        omega
    · rw [findS_end (by omega)]; simp

/-- the first bytes of a row, cut at m -/
theorem Ints.cut {k : IntKind} {w : World} {v : Value} {zs : List Int} (h : Ints k w v zs) : ∃ a c, v = .slice a zs.length c ∧ zs.length ≤ c ∧ c ≤ 9223372036854775807 ∧ Ints k w (.slice a zs.length c) zs ∧ ∀ m, m ≤ zs.length → Ints k w (.slice a m c) (zs.take m) := by
  obtain ⟨a, c, hv⟩ := h.form
  rw [hv] at h
  exact ⟨a, c, hv, h.len.2.1, h.len.2.2, h, fun m hm => h.take hm⟩

set_option maxRecDepth 100000 in
set_option maxHeartbeats 2000000 in
theorem walkMatchFinds {v : Value} {zs : List Int} {win : Int} {w : World} (h : Ints .u8 w v zs) :
    Calls Try.prog 3 #[v, .int .i64 win] w fun e w' => e = .returned (.bool true) ∧ Keeps w w' := by
  obtain ⟨va, vc, rfl, hc1, hc2, hI, hcut⟩ := h.cut
  obtain ⟨Z, hZ⟩ : ∃ Z, Z = zs.length := ⟨_, rfl⟩
  have HI : Hid (∃ n ys, ys.length = n ∧ n ≤ 3000 ∧ n = min Z 3000 ∧ Ints .u8 w (.slice va n vc) ys) := by
    by_cases h3 : zs.length ≤ 3000
    · exact ⟨zs.length, zs, rfl, h3, by omega, hI⟩
    · exact ⟨3000, zs.take 3000, by rw [List.length_take]; omega, by omega, by omega, hcut 3000 (by omega)⟩
  obtain ⟨n, ys, hyn, hn3, hnm, hint⟩ := HI.out
  rw [← hZ] at hc1 ⊢
  have HN := Lib.hid hyn
  have HT := Lib.hid hint
  clear h hI hcut hZ hyn hint HI
  have hor : (Z ≤ 3000 ∧ Z = n) ∨ (3000 < Z ∧ n = 3000) := by omega
  by_cases hb : FindBad ys.length win
  · have HB := Lib.hid hb
    clear hb hnm
    rcases hor with ⟨h3, rfl⟩ | ⟨h3, rfl⟩
    all_goals
      go_enter Try.func3, Try.ntmps3
      go_wp2_with fail
      refine (matchFindNo HT.out HB.out).mono ?_
      rintro e w2 ⟨rfl, rfl⟩
      go_wp2_with fail
      refine (refFindNo HT.out HB.out).mono ?_
      rintro e w3 ⟨rfl, rfl⟩
      go_wp2_with fail
      refine (sameTrue (OwnR.nil 3 0 0 _).recs (OwnR.nil 3 0 0 _).recs (by simp)).mono ?_
      rintro e w4 ⟨rfl, k4⟩
      have K4 := Lib.hid k4
      clear k4
      go_wp2_with (go_at_call 12; refine (livesMatch _).mono ?_; rintro e w7 ⟨rfl, k7⟩; have K7 := Lib.hid k7; clear k7)
      go_ret
      go_light
      exact ⟨rfl, K4.out.keeps K7.out⟩
  · unfold FindBad at hb
    obtain ⟨wn, rfl⟩ := Int.eq_ofNat_of_zero_le (show 0 ≤ win by omega)
    have hw1 : 1 ≤ wn := by omega
    have hw2 : wn ≤ 65536 := by omega
    have hln := findS_length ys wn ys.length 0 0 (by omega)
    have HL : Hid ((findS ys wn 0 0).length ≤ 1048576) := by have := HN.out; show _ ≤ _; omega
    clear hb hnm hln
    rcases hor with ⟨h3, rfl⟩ | ⟨h3, rfl⟩
    all_goals
      go_enter Try.func3, Try.ntmps3
      go_wp2_with fail
      refine (matchFind HT.out (by rw [HN.out]; omega) hw1 hw2).mono ?_
      rintro e w2 ⟨v2, rfl, ho2, k2⟩
      have HO2 := Lib.hid ho2
      have K2 := Lib.hid k2
      clear ho2 k2
      go_wp2_with fail
      refine (refFind (HT.out.keeps K2.out) (by rw [HN.out]; omega) hw1 hw2).mono ?_
      rintro e w3 ⟨v3, rfl, ho3, k3⟩
      have HR2 := Lib.hid (HO2.out.recs.keeps k3)
      have HR3 := Lib.hid ho3.recs
      have K3 : Hid (Keeps w w3) := K2.out.keeps k3
      clear ho3 k3
      go_wp2_with fail
      refine (sameTrue HR2.out HR3.out HL.out).mono ?_
      rintro e w4 ⟨rfl, k4⟩
      have K4 : Hid (Keeps w w4) := K3.out.keeps k4
      clear k4
      go_wp2_with (go_at_call 12; refine (livesMatch _).mono ?_; rintro e w7 ⟨rfl, k7⟩; have K7 := Lib.hid k7; clear k7)
      go_ret
      go_light
      exact ⟨rfl, K4.out.keeps K7.out⟩
end Go.Proofs.Ytkckabfbngkkpaa
