/- The reference's Best. -/
import Derived.Test.YtkckabfbngkkpaaFindS
import Derived.BigQuiet
namespace Go.Proofs.Ytkckabfbngkkpaa
open Go.RowKit

theorem bestD_next {zs : List Int} {i D l s n : Nat} (hD : 1 ≤ D) (h : bestD zs i (D - 1) = (l, s)) (hn : n = lcp zs (i - D) i) : bestD zs i D = if 4 ≤ n ∧ l < n then (n, D) else (l, s) := by
  obtain ⟨j, rfl⟩ : ∃ j, D = j + 1 := ⟨D - 1, by omega⟩
  rw [Nat.add_sub_cancel] at h
  rw [bestD, ← hn, h]

set_option maxRecDepth 100000 in
set_option maxHeartbeats 4000000 in
theorem refBest {w : World} {v : Value} {zs : List Int} {win i : Nat} (h : Ints .u8 w v zs) (hz : zs.length ≤ 65536) (hw : win ≤ 65536) (hi : i ≤ 100000) :
    Calls Try.prog 16 #[v, .int .i64 win, .int .i64 i] w fun e w' => e = .returned (.tuple #[.int .i64 ((best zs win i).1 : Nat), .int .i64 ((best zs win i).2 : Nat)]) ∧ Keeps w w' := by
  obtain ⟨va, vc, hv⟩ := h.form
  obtain ⟨Z, hZ⟩ : ∃ Z, Z = zs.length := ⟨_, rfl⟩
  rw [← hZ] at hv hz
  subst hv
  have hZc := h.len.2
  have HZ := Lib.hid hZ
  obtain ⟨R, hR⟩ : ∃ R, R = best zs win i := ⟨_, rfl⟩
  rw [← hR]
  have HR := Lib.hid hR
  have HC : Hid (∀ k, k < Z → ∃ db off, va = some ⟨db, off, none⟩ ∧ w.cell? ⟨db, off + k, none⟩ = some (.int .u8 (zs.getD k 0))) := fun k hk => by
    obtain ⟨hwf, _, _, hve, _, _, _, hc⟩ := h
    cases hve
    exact hc k (by omega)
  clear h hZ hR
  go_enter Try.func16, Try.ntmps16
  go_wp2_with fail
  go_loopw [8, 9, 10] (fun lv sv dv wr => ∃ (D l s : Nat), 1 ≤ D ∧ D ≤ win + 1 ∧ D ≤ i + 1 ∧ lv = .int .i64 l ∧ sv = .int .i64 s ∧ dv = .int .i64 D ∧ bestD zs i (D - 1) = (l, s) ∧ Keeps w wr) (fun _ _ dv _ => win + 1 - (intOf dv).toNat)
  case atStart => exact ⟨1, 0, 0, by omega, by omega, by omega, rfl, rfl, rfl, rfl, Fr.refl _ _⟩
  case round =>
    obtain ⟨D, l, s, hD, hD1, hD2, rfl, rfl, rfl, hb, hk⟩ := hrel
    have hl := bestD_le zs i (D - 1)
    rw [hb] at hl
    have hl : l ≤ 259 := hl
    have HB := Lib.hid hb
    have HK := Lib.hid hk
    clear hb hk
    have hor : (D ≤ win ∧ D ≤ i) ∨ win < D ∨ (D ≤ win ∧ i < D) := by omega
    rcases hor with ⟨g1, g2⟩ | g1 | ⟨g1, g2⟩
    rotate_left
    · have hres : Hid (R = (l, s)) := HR.out.trans (by unfold best; rw [show min win i = D - 1 by omega]; exact HB.out)
      go_wp2_with fail
      go_ret2
      go_light
      exact ⟨by rw [hres.out]; rfl, HK.out⟩
    · have hres : Hid (R = (l, s)) := HR.out.trans (by unfold best; rw [show min win i = D - 1 by omega]; exact HB.out)
      go_wp2_with fail
      go_ret2
      go_light
      exact ⟨by rw [hres.out]; rfl, HK.out⟩
    · obtain ⟨N, hN⟩ : ∃ N, N = lcp zs (i - D) i := ⟨_, rfl⟩
      have hle := lcp_le zs (i - D) i
      rw [← hN] at hle
      have HN := Lib.hid hN
      clear hN
      go_wp2_with fail
      go_loopw [11] (fun nv wx => ∃ (n : Nat), n ≤ N ∧ nv = .int .i64 n ∧ Keeps w wx) (fun nv _ => 259 - (intOf nv).toNat)
      case atStart => exact ⟨0, by omega, rfl, HK.out⟩
      case round =>
        obtain ⟨n, hn, rfl, hk⟩ := hrel
        have hor : (n < 259 ∧ i + n < Z ∧ zs.getD (i - D + n) 0 = zs.getD (i + n) 0 ∧ n < N) ∨ (n = N ∧ n = 259) ∨ (n = N ∧ n < 259 ∧ Z ≤ i + n) ∨ (n = N ∧ n < 259 ∧ i + n < Z ∧ zs.getD (i - D + n) 0 ≠ zs.getD (i + n) 0) := by
          by_cases he : n = N
          · have := lcp_end (he.trans HN.out)
            rw [← HZ.out] at this
            omega
          · have := lcp_next (zs := zs) (a := i - D) (b := i) (n := n) (by rw [← HN.out]; omega)
            rw [← HZ.out] at this
            omega
        have HK := Lib.hid hk
        clear hk
        rcases hor with ⟨g3, g4, g5, g6⟩ | hor
        · obtain ⟨db, off, rfl, ca⟩ := HC.out (i + n) (by omega)
          have cb : wr.cell? ⟨db, off + (i + n - D), none⟩ = some (.int .u8 (zs.getD (i - D + n) 0)) := by
            obtain ⟨_, _, e, cb⟩ := HC.out (i - D + n) (by omega)
            cases e
            rw [show i + n - D = i - D + n by omega]
            exact HK.out.cell (fun h => h) cb
          have ca := HK.out.cell (fun h => h) ca
          rw [g5] at cb
          generalize zs.getD (i + n) 0 = x at *
          have t1 : (n : Int) < 259 := by omega
          have t2 : (i : Int) + (n : Int) < (Z : Int) := by omega
          have t3 : (0 : Int) ≤ (i : Int) + (n : Int) := by omega
          have t4 : (i : Int) + (n : Int) - (D : Int) < (Z : Int) := by omega
          have t5 : (0 : Int) ≤ (i : Int) + (n : Int) - (D : Int) := by omega
          clear g5
          go_wp2_with fail
          go_quiet (fail)
          go_wp2_with fail
          go_roundw
          all_goals go_light
          case rel => exact ⟨n + 1, by omega, by go_num, HK.out.drewN _⟩
          case measure => simp [intOf]; omega
        · have hne : n = N := by omega
          have hnx := bestD_next hD HB.out (hne.trans HN.out)
          have HNX := Lib.hid hnx
          clear hnx hne
          have hn9 : n ≤ 259 := by omega
          have hor3 : (4 ≤ n ∧ l < n) ∨ n < 4 ∨ (4 ≤ n ∧ n ≤ l) := by omega
          rcases hor with ⟨e1, e2⟩ | ⟨e1, e2, e3⟩ | ⟨e1, e2, e3, e4⟩
          · have t1 : decide ((n : Int) < 259) = false := by simp; omega
            clear e1 e2
            go_wp2_with fail
            go_quiet (fail)
            rcases hor3 with ⟨g3, g4⟩ | g3 | ⟨g3, g4⟩
            · go_wp2_with fail
              go_roundw
              all_goals go_light
              case rel => exact ⟨D + 1, n, D, by omega, by omega, by omega, rfl, rfl, by go_num, by rw [Nat.add_sub_cancel, HNX.out, if_pos ⟨g3, g4⟩], HK.out.drewN _⟩
              case measure => simp [intOf]; omega
            all_goals
              go_wp2_with fail
              go_roundw
              all_goals go_light
              case rel => exact ⟨D + 1, l, s, by omega, by omega, by omega, rfl, rfl, by go_num, by rw [Nat.add_sub_cancel, HNX.out, if_neg (by omega)], HK.out.drewN _⟩
              case measure => simp [intOf]; omega
          · have t1 : (n : Int) < 259 := by omega
            have t2 : decide ((i : Int) + (n : Int) < (Z : Int)) = false := by simp; omega
            clear e1 e2
            go_wp2_with fail
            go_quiet (fail)
            rcases hor3 with ⟨g3, g4⟩ | g3 | ⟨g3, g4⟩
            · go_wp2_with fail
              go_roundw
              all_goals go_light
              case rel => exact ⟨D + 1, n, D, by omega, by omega, by omega, rfl, rfl, by go_num, by rw [Nat.add_sub_cancel, HNX.out, if_pos ⟨g3, g4⟩], HK.out.drewN _⟩
              case measure => simp [intOf]; omega
            all_goals
              go_wp2_with fail
              go_roundw
              all_goals go_light
              case rel => exact ⟨D + 1, l, s, by omega, by omega, by omega, rfl, rfl, by go_num, by rw [Nat.add_sub_cancel, HNX.out, if_neg (by omega)], HK.out.drewN _⟩
              case measure => simp [intOf]; omega
          · obtain ⟨db, off, rfl, ca⟩ := HC.out (i + n) (by omega)
            have cb : wr.cell? ⟨db, off + (i + n - D), none⟩ = some (.int .u8 (zs.getD (i - D + n) 0)) := by
              obtain ⟨_, _, e, cb⟩ := HC.out (i - D + n) (by omega)
              cases e
              rw [show i + n - D = i - D + n by omega]
              exact HK.out.cell (fun h => h) cb
            have ca := HK.out.cell (fun h => h) ca
            generalize zs.getD (i + n) 0 = x at *
            generalize zs.getD (i - D + n) 0 = y at *
            have hne : (x == y) = false := by simpa using fun h => e4 h.symm
            have t1 : (n : Int) < 259 := by omega
            have t2 : (i : Int) + (n : Int) < (Z : Int) := by omega
            have t3 : (0 : Int) ≤ (i : Int) + (n : Int) := by omega
            have t4 : (i : Int) + (n : Int) - (D : Int) < (Z : Int) := by omega
            have t5 : (0 : Int) ≤ (i : Int) + (n : Int) - (D : Int) := by omega
            clear e1 e2 e4
            go_wp2_with fail
            go_quiet (fail)
            rcases hor3 with ⟨g3, g4⟩ | g3 | ⟨g3, g4⟩
            · go_wp2_with fail
              go_roundw
              all_goals go_light
              case rel => exact ⟨D + 1, n, D, by omega, by omega, by omega, rfl, rfl, by go_num, by rw [Nat.add_sub_cancel, HNX.out, if_pos ⟨g3, g4⟩], HK.out.drewN _⟩
              case measure => simp [intOf]; omega
            all_goals
              go_wp2_with fail
              go_roundw
              all_goals go_light
              case rel => exact ⟨D + 1, l, s, by omega, by omega, by omega, rfl, rfl, by go_num, by rw [Nat.add_sub_cancel, HNX.out, if_neg (by omega)], HK.out.drewN _⟩
              case measure => simp [intOf]; omega
end Go.Proofs.Ytkckabfbngkkpaa
