/- MatchOwns: the walk. -/
import Derived.Test.YtkckabfbngkkpaaLivesM
import Derived.Test.YtkckabfbngkkpaaSame
import Derived.Test.YtkckabfbngkkpaaLitS
namespace Go.Proofs.Ytkckabfbngkkpaa
open Go.RowKit

set_option maxRecDepth 100000 in
set_option maxHeartbeats 4000000 in
theorem walkMatchOwns {v u : Value} {zs : List Int} {qs : List (List Int)} {w : World} (h : Ints .u8 w v zs) (hz : zs.length ≤ 140737488351232) (hq : Recs 3 w u qs) (hqn : qs.length ≤ 5864062014634) :
    Calls Try.prog 8 #[v, u] w fun e w' => e = .returned (.bool true) ∧ Keeps w w' := by
  have HT := Lib.hid h
  have HQ := Lib.hid hq
  obtain ⟨va, vc, hv⟩ := h.form
  obtain ⟨Z, hZ⟩ : ∃ Z, Z = zs.length := ⟨_, rfl⟩
  rw [← hZ] at hv hz
  subst hv
  have HZ := Lib.hid hZ
  clear h hq hZ
  go_enter Try.func8, Try.ntmps8
  go_wp2_with (at_builtin; go_loud (refine wpList_ints rfl (.tmp 13) (.tmp 14) rfl elemB (.slice none 0 0) rfl rfl (Own.nil .u8 5 w.heap.size _) HT.out (by rw [← HZ.out]; simp; omega) (Nat.le_refl _) ?_); intro v1 w1 hown1 hfr1 hat1; simp only [List.nil_append] at hown1; have H1 := Lib.hid hown1; have K1 : Hid (Keeps w w1) := hfr1.mono (fun i hi h => by simp [Value.ownBlock] at h); clear hown1 hfr1 hat1)
  have hf1 := H1.out.form
  obtain ⟨a1, c1, hv1⟩ := hf1
  rw [← HZ.out] at hv1
  subst hv1
  have hzc := H1.out.ints.len.2
  refine (matchRun (most := 65536) H1.out.ints (by rw [← HZ.out]; omega) (HQ.out.keeps K1.out) hqn (by omega) (by omega)).mono ?_
  rintro e w2 ⟨v2, rfl, ho2, k2⟩
  have HO2 := Lib.hid ho2
  have K12 := Lib.hid k2
  have K2 : Hid (Keeps w w2) := K1.out.keeps k2
  have H2 := Lib.hid (H1.out.keeps k2)
  clear ho2 k2
  generalize (runS 65536 qs zs []).2 = r2 at *
  generalize (runS 65536 qs zs []).1 = ys2 at *
  go_wp2_with fail
  refine (matchLiterals H2.out.ints (by rw [← HZ.out]; omega) (HQ.out.keeps K2.out) hqn).mono ?_
  rintro e w3 ⟨v3, rfl, ho3, k3⟩
  have HO3 := Lib.hid ho3
  have HO23 := Lib.hid (HO2.out.keeps k3)
  have HS3 : Hid (w1.heap.size ≤ w2.heap.size ∧ w2.heap.size ≤ w3.heap.size) := ⟨K12.out.size, k3.size⟩
  have K3 : Hid (Keeps w w3) := K2.out.keeps k3
  have H3 := Lib.hid (H2.out.keeps k3)
  have HB : Hid (∀ b, v2.ownBlock = some b → b < w2.heap.size) := fun b hb => (HO2.out.lt b hb).2
  have HB1 : Hid (∀ b, (Value.slice a1 Z c1).ownBlock = some b → b < w1.heap.size) := fun b hb => (H1.out.lt b hb).2
  clear ho3 k3
  generalize (litS qs zs []).2 = r3 at *
  generalize (litS qs zs []).1 = ys3 at *
  obtain ⟨a2, c2, hv2⟩ := HO23.out.form
  obtain ⟨a3, c3, hv3⟩ := HO3.out.form
  obtain ⟨N2, hN2⟩ : ∃ N, N = ys2.length := ⟨_, rfl⟩
  obtain ⟨N3, hN3⟩ : ∃ N, N = ys3.length := ⟨_, rfl⟩
  rw [← hN2] at hv2
  rw [← hN3] at hv3
  subst hv2
  subst hv3
  have hn2 := HO23.out.ints.len
  have hn3 := HO3.out.ints.len
  clear hN2 hN3
  go_wp2_with fail
  go_loopw [10] (fun i wr => ∃ (k : Nat) (xs : List Int), k ≤ N2 ∧ i = .int .i64 k ∧ Own .u8 5 w1.heap.size wr (.slice a2 N2 c2) xs ∧ Fr (fun j => (Value.slice a2 N2 c2).ownBlock = some j) w3 wr) (fun i _ => N2 - (intOf i).toNat)
  case atStart => exact ⟨0, ys2, by omega, rfl, HO23.out, Fr.refl _ _⟩
  case round =>
    obtain ⟨k, xs, hk, rfl, hox, hfx⟩ := hrel
    by_cases hlt : k < N2
    case pos =>
      have hxl : xs.length = N2 := hox.ints.len.1
      obtain ⟨gm, cm, hvm, _, _, hgm, hgm2⟩ := hox.formNe (by omega)
      rw [hxl] at hvm
      obtain ⟨rfl, rfl⟩ : a2 = some ⟨gm, 0, none⟩ ∧ c2 = cm := by cases hvm; exact ⟨rfl, rfl⟩
      obtain ⟨hcell, hfz⟩ := hox.at (i := k) (by omega)
      generalize xs.getD k 0 = y at *
      have HOX := Lib.hid hox
      have HFX := Lib.hid hfx
      clear hox hfx hxl hvm
      go_wp2_with fail
      go_roundw
      all_goals go_light
      case rel =>
        exact ⟨k + 1, xs.set k 7, by omega, by go_num, HOX.out.set k (by decide), HFX.out.setAt rfl _ _⟩
      case measure => simp [intOf]; omega
    case neg =>
      have HFX := Lib.hid hfx
      have HO4 := Lib.hid (HO3.out.fr hfx (fun j hj h => by have h1 := (HO3.out.lt j hj).1; have h2 := HB.out j h; omega))
      have H4 := Lib.hid (H3.out.fr hfx (fun j hj h => by have h1 := (HO2.out.lt j h).1; have h2 := HB1.out j hj; omega))
      have K4 : Hid (Keeps w wr) := K3.out.trans hfx (fun i hi h => by have h1 := (HO2.out.lt i h).1; have := K1.out.size; omega)
      have HS4 : Hid (w3.heap.size ≤ wr.heap.size) := hfx.size
      clear hox hfx
      go_wp2_with fail
      go_loopw [11] (fun i wx => ∃ (k : Nat) (xs : List Int), k ≤ N3 ∧ i = .int .i64 k ∧ Own .u8 5 w2.heap.size wx (.slice a3 N3 c3) xs ∧ Fr (fun j => (Value.slice a3 N3 c3).ownBlock = some j) wr wx) (fun i _ => N3 - (intOf i).toNat)
      case atStart => exact ⟨0, ys3, by omega, rfl, HO4.out, Fr.refl _ _⟩
      case round =>
        obtain ⟨k3, xs3, hk3, rfl, hox3, hfx3⟩ := hrel
        by_cases hlt3 : k3 < N3
        case pos =>
          have hxl : xs3.length = N3 := hox3.ints.len.1
          obtain ⟨gm, cm, hvm, _, _, hgm, hgm2⟩ := hox3.formNe (by omega)
          rw [hxl] at hvm
          obtain ⟨rfl, rfl⟩ : a3 = some ⟨gm, 0, none⟩ ∧ c3 = cm := by cases hvm; exact ⟨rfl, rfl⟩
          obtain ⟨hcell, hfz⟩ := hox3.at (i := k3) (by omega)
          generalize xs3.getD k3 0 = y at *
          have HOX := Lib.hid hox3
          have HFX3 := Lib.hid hfx3
          clear hox3 hfx3 hxl hvm
          go_wp2_with fail
          go_roundw
          all_goals go_light
          case rel =>
            exact ⟨k3 + 1, xs3.set k3 9, by omega, by go_num, HOX.out.set k3 (by decide), HFX3.out.setAt rfl _ _⟩
          case measure => simp [intOf]; omega
        case neg =>
          have H5 := Lib.hid (H4.out.fr hfx3 (fun j hj h => by have h1 := (HO3.out.lt j h).1; have h2 := HB1.out j hj; have := HS3.out; omega))
          have K5 : Hid (Keeps w wr) := K4.out.trans hfx3 (fun i hi h => by have h1 := (HO3.out.lt i h).1; have := K2.out.size; omega)
          clear hox3 hfx3
          have hfind : Hid (Calls Try.prog 9 #[.slice a1 Z c1, .int .i64 99] wr fun e w' => (∃ v' r, e = .returned (.tuple #[v', r])) ∧ Keeps wr w') := by
            by_cases hzz : zs.length ≤ 65536
            · exact (matchFind (win := 99) H5.out.ints hzz (by decide) (by decide)).mono fun e w' ⟨v', he, _, hk⟩ => ⟨⟨v', _, he⟩, hk⟩
            · exact (matchFindNo (win := 99) H5.out.ints (.inl (by omega))).mono fun e w' ⟨he, hk⟩ => ⟨⟨_, _, he⟩, by rw [hk]; exact Fr.refl _ _⟩
          go_wp2_with fail
          refine hfind.out.mono ?_
          rintro e w6 ⟨⟨v6, r6, rfl⟩, k6⟩
          have K6 : Hid (Keeps w w6) := K5.out.keeps k6
          have hsm := refSame (H5.out.keeps k6).ints (HT.out.keeps K6.out)
          rw [decide_eq_true rfl] at hsm
          have HSM := Lib.hid hsm
          clear k6 hsm
          go_wp2_with fail
          refine HSM.out.mono ?_
          rintro e w7 ⟨rfl, k7⟩
          have K7 : Hid (Keeps w w7) := K6.out.keeps k7
          clear k7
          go_wp2_with (go_at_call 12; refine (livesMatch _).mono ?_; rintro e w8 ⟨rfl, k8⟩; have K8 := Lib.hid k8; clear k8)
          go_ret
          go_light
          exact ⟨rfl, K7.out.keeps K8.out⟩
end Go.Proofs.Ytkckabfbngkkpaa
