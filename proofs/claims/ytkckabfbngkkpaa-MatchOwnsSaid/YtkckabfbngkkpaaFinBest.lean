/- The finder: the best match at a place. -/
import Derived.Test.YtkckabfbngkkpaaFinLink
import Derived.WalkMore
namespace Go.Proofs.Ytkckabfbngkkpaa
open Go.RowKit

theorem chain_end {zs : List Int} {i q M win : Nat} (h : prev zs M q = 0) (hM : M = markN zs i) (hq : q ≤ i) (hw : i - q ≤ win) : best zs win i = bestD zs i (i - q) := by
  unfold best
  obtain ⟨k, hk⟩ : ∃ k, min win i = i - q + k := ⟨min win i - (i - q), by omega⟩
  rw [hk]
  refine bestD_skip zs i (i - q) k fun d h1 h2 => ?_
  by_cases h4 : 4 ≤ lcp zs (i - d) i
  · exact absurd ((markN_lcp h4).trans hM.symm) (prev_none h (i - d) (by omega))
  · omega
theorem chain_far {zs : List Int} {i q p M win : Nat} (h : prev zs M q = p + 1) (hM : M = markN zs i) (hq : q ≤ i) (hw : i - q ≤ win) (hp : win < i - p) : best zs win i = bestD zs i (i - q) := by
  unfold best
  obtain ⟨k, hk⟩ : ∃ k, min win i = i - q + k := ⟨min win i - (i - q), by omega⟩
  rw [hk]
  refine bestD_skip zs i (i - q) k fun d h1 h2 => ?_
  by_cases h4 : 4 ≤ lcp zs (i - d) i
  · exact absurd ((markN_lcp h4).trans hM.symm) ((prev_some h).2.2 (i - d) (by omega) (by omega))
  · omega
theorem chain_full {zs : List Int} {i q win : Nat} (hq : q ≤ i) (hw : i - q ≤ win) (h : (bestD zs i (i - q)).1 = 259) : best zs win i = bestD zs i (i - q) := by
  unfold best
  obtain ⟨k, hk⟩ : ∃ k, min win i = i - q + k := ⟨min win i - (i - q), by omega⟩
  rw [hk]
  exact bestD_full zs i (i - q) h k
theorem chain_next {zs : List Int} {i q p M : Nat} (h : prev zs M q = p + 1) (hM : M = markN zs i) (hq : q ≤ i) :
    bestD zs i (i - p) = if 4 ≤ lcp zs p i ∧ (bestD zs i (i - q)).1 < lcp zs p i then (lcp zs p i, i - p) else bestD zs i (i - q) := by
  obtain ⟨h1, h2, h3⟩ := prev_some h
  obtain ⟨k, hk⟩ : ∃ k, i - p = i - q + k + 1 := ⟨i - p - (i - q) - 1, by omega⟩
  have hs := bestD_skip zs i (i - q) k fun d h4 h5 => by
    by_cases h6 : 4 ≤ lcp zs (i - d) i
    · exact absurd ((markN_lcp h6).trans hM.symm) (h3 (i - d) (by omega) (by omega))
    · omega
  rw [hk, bestD, hs, ← hk, show i - (i - p) = p from by omega]

set_option maxRecDepth 100000 in
set_option maxHeartbeats 2000000 in
theorem finBestShort {w : World} {b : Nat} {dv : Value} {win g : Nat} {zs : List Int} {K i : Nat} (h : Fin4 w b dv win g zs K) (hz : zs.length ≤ 65536) (hi : zs.length < i + 4) (hi2 : i ≤ 100000) :
    Calls Try.prog 19 #[.pointer (some ⟨b, 0, none⟩), .int .i64 i] w fun e w' => e = .returned (.tuple #[.int .i64 0, .int .i64 0]) ∧ w' = w := by
  obtain ⟨Z, hZ⟩ : ∃ Z, Z = zs.length := ⟨_, rfl⟩
  rw [← hZ] at hz hi
  obtain ⟨va, vc, hv⟩ := h.ints.form
  rw [← hZ] at hv
  subst hv
  have d0 := h.d0
  clear h hZ
  go_enter Try.func19, Try.ntmps19
  go_wp2_with fail
  go_step3
  go_wp2_with fail
  try rw [Exit.noGoto_ret]
  go_ret2
  exact ⟨rfl, rfl⟩

set_option maxRecDepth 100000 in
set_option maxHeartbeats 2000000 in
theorem finBest {w : World} {b : Nat} {dv : Value} {win g : Nat} {zs : List Int} {K i : Nat} (h : Fin4 w b dv win g zs K) (hz : zs.length ≤ 65536) (hw : win ≤ 65536) (hK : K ≤ i) (hi : i + 4 ≤ zs.length) :
    Calls Try.prog 19 #[.pointer (some ⟨b, 0, none⟩), .int .i64 i] w fun e w' => e = .returned (.tuple #[.int .i64 ((best zs win i).1 : Nat), .int .i64 ((best zs win i).2 : Nat)]) ∧ Fin4 w' b dv win g zs i ∧ Fr (fun k => k = b ∨ k = g) w w' := by
  have HF := Lib.hid h
  obtain ⟨Z, hZ⟩ : ∃ Z, Z = zs.length := ⟨_, rfl⟩
  rw [← hZ] at hz hi
  have HZ := Lib.hid hZ
  obtain ⟨va, vc, hv⟩ := h.ints.form
  rw [← hZ] at hv
  subst hv
  have d0 := h.d0
  obtain ⟨R, hR⟩ : ∃ R, R = best zs win i := ⟨_, rfl⟩
  rw [← hR]
  have HR := Lib.hid hR
  obtain ⟨M, hM⟩ : ∃ M, M = markN zs i := ⟨_, rfl⟩
  have hm4 := markN_lt zs i
  rw [← hM] at hm4
  have HM := Lib.hid hM
  clear h hZ hR hM
  go_enter Try.func19, Try.ntmps19
  go_wp2_with fail
  go_step3
  go_wp2_with fail
  refine (finLink HF.out (by rw [← HZ.out]; omega) hK (by rw [← HZ.out]; omega)).mono ?_
  rintro e w5 ⟨rfl, hf5, hfr5⟩
  have HF5 := Lib.hid hf5
  have HBG : Hid (b < w5.heap.size ∧ g < w5.heap.size) := by
    obtain ⟨z, hz⟩ := hf5.dc 0 (by rw [← HZ.out]; omega)
    exact ⟨World.block_lt_of_cell? _ _ hf5.d0, World.block_lt_of_cell? _ _ hz⟩
  have FR5 := Lib.hid hfr5
  have e0 := hf5.d0
  have eh := hf5.dh M hm4
  obtain ⟨at0, ha0⟩ : ∃ x, x = prev zs M i := ⟨_, rfl⟩
  rw [← ha0] at eh
  have HA0 := Lib.hid ha0
  have t1 : (M : Int) < 4096 := by omega
  have t2 : (0 : Int) ≤ (M : Int) := by omega
  clear hf5 hfr5 ha0 d0
  go_wp2_with fail
  have hmk : ∀ n, Calls Try.prog 21 #[.pointer (some ⟨b, 0, none⟩), .int .i64 i] (w5.drewN n) fun e w' => e = .returned (.int .i64 (M : Int)) ∧ ∃ m, w' = (w5.drewN n).drewN m := fun n => by
    rw [HM.out]
    exact finMark (zs := zs) (dv := .slice va Z vc) (i := i) e0 (HF5.out.ints.keeps ((Fr.refl _ _).drewN _)) (by rw [← HZ.out]; omega) (by rw [← HZ.out]; omega)
  have HMK := Lib.hid hmk
  clear hmk
  go_step3
  go_wp2_with fail
  go_quiet (first | (go_at_call 21; go_loud (exact Calls.quiet_of (HMK.out _))))
  go_wp2_with fail
  go_loopw [6, 7, 8] (fun lv sv av wr => ∃ (q l d x : Nat), q ≤ i ∧ i - q ≤ win ∧ lv = .int .i64 l ∧ sv = .int .i64 d ∧ av = .int .i64 x ∧ x = prev zs M q ∧ bestD zs i (i - q) = (l, d) ∧ Keeps w5 wr) (fun _ _ av _ => (intOf av).toNat)
  case atStart => exact ⟨i, 0, 0, at0, by omega, by omega, rfl, rfl, rfl, HA0.out, by rw [Nat.sub_self]; rfl, (Fr.refl _ _).drewN _⟩
  case round =>
    obtain ⟨q, l, d, x, hq, hqw, rfl, rfl, rfl, hx, hb, hk⟩ := hrel
    have hl := bestD_le zs i (i - q)
    rw [hb] at hl
    have hl : l ≤ 259 := hl
    have HX := Lib.hid hx
    have HB := Lib.hid hb
    have HK := Lib.hid hk
    clear hx hb hk
    rcases Nat.eq_zero_or_pos x with rfl | hpos
    · have hres : Hid (R = (l, d)) := HR.out.trans ((chain_end HX.out.symm HM.out hq hqw).trans HB.out)
      go_wp2_with fail
      try rw [Exit.noGoto_ret]
      go_ret2
      go_light
      exact ⟨by rw [hres.out]; rfl, HF5.out.keeps HK.out HBG.out.1 HBG.out.2, FR5.out.keeps HK.out⟩
    · obtain ⟨p, rfl⟩ : ∃ p, x = p + 1 := ⟨x - 1, by omega⟩
      obtain ⟨hp1, hp2, _⟩ := prev_some HX.out.symm
      have hf6 := HF5.out.keeps HK.out HBG.out.1 HBG.out.2
      have HF6 := Lib.hid hf6
      have hcs := finSame (a := p) (b := i) hf6.d0 hf6.ints (by rw [← HZ.out]; omega) (by omega) (by rw [← HZ.out]; omega)
      obtain ⟨n, hn⟩ : ∃ n, n = lcp zs p i := ⟨_, rfl⟩
      rw [← hn] at hcs
      have hn2 := lcp_le zs p i
      rw [← hn] at hn2
      have HN := Lib.hid hn
      have HCS := Lib.hid hcs
      have hcell := hf6.dp p (by omega)
      rw [hp2] at hcell
      obtain ⟨x2, hx2⟩ : ∃ x2, x2 = prev zs M p := ⟨_, rfl⟩
      rw [← hx2] at hcell
      have HX2 := Lib.hid hx2
      have hda := hf6.da
      rw [← HZ.out] at hda
      have hd1 := hf6.d1
      have HC1 := Lib.hid hcell
      have HC2 := Lib.hid hda
      have HC3 := Lib.hid hd1
      clear hn hcs hf6 hp2 hx2 hcell hda hd1
      go_wp2_with fail
      refine HCS.out.mono ?_
      rintro e w7 ⟨rfl, k7⟩
      have e1 := k7.cell (fun h => h) HC1.out
      have e2 := k7.cell (fun h => h) HC2.out
      have e3 := k7.cell (fun h => h) HC3.out
      have K7 := Lib.hid k7
      clear k7
      have hor : (win < i - p) ∨ (i - p ≤ win ∧ l = 259) ∨ (i - p ≤ win ∧ l < 259 ∧ 4 ≤ n ∧ l < n) ∨ (i - p ≤ win ∧ l < 259 ∧ n < 4) ∨ (i - p ≤ win ∧ l < 259 ∧ 4 ≤ n ∧ n ≤ l) := by omega
      rcases hor with g1 | ⟨g1, rfl⟩ | ⟨g1, g2, g3, g4⟩ | ⟨g1, g2, g3⟩ | ⟨g1, g2, g3, g4⟩
      · have hres : Hid (R = (l, d)) := HR.out.trans ((chain_far HX.out.symm HM.out hq hqw g1).trans HB.out)
        go_wp2_with fail
        try rw [Exit.noGoto_ret]
        go_ret2
        go_light
        have kk := HK.out.keeps K7.out
        exact ⟨by rw [hres.out]; rfl, HF5.out.keeps kk HBG.out.1 HBG.out.2, FR5.out.keeps kk⟩
      · have hres : Hid (R = (259, d)) := HR.out.trans ((chain_full hq hqw (by rw [HB.out])).trans HB.out)
        go_wp2_with fail
        try rw [Exit.noGoto_ret]
        go_ret2
        go_light
        have kk := HK.out.keeps K7.out
        exact ⟨by rw [hres.out]; rfl, HF5.out.keeps kk HBG.out.1 HBG.out.2, FR5.out.keeps kk⟩
      · have hnx := chain_next HX.out.symm HM.out hq
        rw [← HN.out, HB.out, if_pos ⟨g3, g4⟩] at hnx
        have HNX := Lib.hid hnx
        have t9 : ((l : Int) == 259) = false := by simp; omega
        clear hnx
        go_wp2_with fail
        go_light
        refine ⟨⟨p, n, i - p, x2, by omega, g1, rfl, congrArg (Value.int .i64) (by omega), rfl, HX2.out, HNX.out, HK.out.keeps K7.out⟩, ?_⟩
        have := prev_le zs M p
        have := HX2.out
        simp [intOf]
        omega
      all_goals
        have hnx := chain_next HX.out.symm HM.out hq
        rw [← HN.out, HB.out, if_neg (by omega)] at hnx
        have HNX := Lib.hid hnx
        have t9 : ((l : Int) == 259) = false := by simp; omega
        clear hnx
        go_wp2_with fail
        go_light
        refine ⟨⟨p, l, d, x2, by omega, g1, rfl, rfl, rfl, HX2.out, HNX.out, HK.out.keeps K7.out⟩, ?_⟩
        have := prev_le zs M p
        have := HX2.out
        simp [intOf]
        omega

/-- at whatever place, one behind the end counted in -/
theorem finBestAny {w : World} {b : Nat} {dv : Value} {win g : Nat} {zs : List Int} {K i : Nat} (h : Fin4 w b dv win g zs K) (hz : zs.length ≤ 65536) (hw : win ≤ 65536) (hK : K ≤ i) (hi : i ≤ zs.length + 1) :
    Calls Try.prog 19 #[.pointer (some ⟨b, 0, none⟩), .int .i64 i] w fun e w' => e = .returned (.tuple #[.int .i64 ((best zs win i).1 : Nat), .int .i64 ((best zs win i).2 : Nat)]) ∧ (∃ K', K' ≤ i ∧ Fin4 w' b dv win g zs K') ∧ Fr (fun k => k = b ∨ k = g) w w' := by
  by_cases hs : i + 4 ≤ zs.length
  · exact (finBest h hz hw hK hs).mono fun e w' ⟨h1, h2, h3⟩ => ⟨h1, ⟨i, Nat.le_refl _, h2⟩, h3⟩
  · have hb := best_short zs win (i := i) (by omega)
    refine (finBestShort h hz (by omega) (by omega)).mono fun e w' ⟨h1, h2⟩ => ?_
    rw [h2, hb]
    exact ⟨h1, ⟨K, hK, h⟩, Fr.refl _ _⟩
end Go.Proofs.Ytkckabfbngkkpaa
